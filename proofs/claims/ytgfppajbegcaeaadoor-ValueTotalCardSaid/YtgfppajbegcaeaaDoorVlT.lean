/-
  The walk of ValueTotal (with slices.Concat and slices.Grow at lists of values).
-/
import Derived.Test.YtgfppajbegcaeaaDoorVaZ
import Derived.Test.YtgfppajbegcaeaaDoorVaN
import Derived.Test.YtgfppajbegcaeaaDoorVop
import Derived.Lib.AppendZeros
set_option linter.unusedSimpArgs false
set_option linter.unusedVariables false
namespace Go.Proofs.YtgfppajbegcaeaaDoor.Va
open Go.RowKit Go.ChangeShapes Go.WideShapes Go.Proofs.YtgfppajbegcaeaaDoor.Sl

theorem run_app0 (ty : TypeId) (base ad : Option Addr) (n cap c : Nat) (h : n ≤ cap) (w : World) : (Builtin.append_ #[22, 22] ty #[.slice base n cap, .slice ad 0 c]).run Tryd.prog w = .ok (.slice base n cap) w := by
  obtain ⟨i0, hi, hz0, hz1, hz2⟩ := info_parts infoV
  cases base <;> cases ad <;> simp [Builtin.append_, run_underlying Tryd.underlying22, sizeOf, typeInfo, hi, Builtin.lenOf, Builtin.firstCells, h, loadCells, loadCellsFrom, storeCells, Result.andThen]
theorem flatV_app (a b : List V3) : flatV (a ++ b) = flatV a ++ flatV b := by unfold flatV; rw [List.map_append, List.flatten_append]
theorem flatV_one (l : List V3) : ∀ u ∈ flatV l, u.oneCell' = true := by
  intro u hu
  unfold flatV at hu
  obtain ⟨r, hr, hu⟩ := List.mem_flatten.1 hu
  obtain ⟨v, _, rfl⟩ := List.mem_map.1 hr
  simp [rowV] at hu
  rcases hu with rfl | rfl | rfl <;> rfl
/-- append(v, s...), s a list of values. -/
theorem wp_vals {ops : Array Oper} {rest : List Oper} {o : Oper} {a : Act} {Q : Exit → Act → World → Prop} {W0 w : World} {v : Value} {l l2 : List V3} (hB : Vf W0 w v l) (hgd : o.guard = none) (s x : Operand)
    (ho : o.op = .call { callee := .builtin .append, args := #[s, x], argTypes := #[22, 22] }) (hs : a.eval s = v) {sv : Value} (hx : a.eval x = sv) (hv : Vs w sv l2) (hlen : l.length + l2.length ≤ 1000000)
    (h : ∀ v' w', Vf W0 w' v' (l ++ l2) → wpList Tryd.prog ops Q rest (a.put o.dst v') w') : wpList Tryd.prog ops Q (o :: rest) a w := by
  obtain ⟨i0, hi, hz0, hz1, hz2⟩ := info_parts infoV
  by_cases h0 : l2.length = 0
  · obtain rfl : l2 = [] := List.length_eq_zero_iff.1 h0
    obtain ⟨ad, c, rfl⟩ := hv.form
    obtain ⟨ad2, cap, rfl, hcap⟩ : ∃ ad2 cap, v = .slice ad2 l.length cap ∧ l.length ≤ cap := by
      rcases hB.1.2 with ⟨rfl, h1⟩ | ⟨g, cap, cur, rfl, _, _, hn, _⟩
      · exact ⟨none, 0, by rw [h1], by omega⟩
      · exact ⟨_, cap, rfl, hn⟩
    refine Lib.wpList_append_run w hgd s x _ _ ho _ _ hs hx _ w (run_app0 _ _ _ _ _ _ hcap w) (h _ w ?_)
    rw [List.append_nil]; exact hB
  · obtain ⟨g, off, c, rfl, hc⟩ := hv.open h0
    refine wpList_append_lies _ hgd s x _ ho W0.heap.size _ i0 _ 3 32 Tryd.underlying22 hi hz0 hz1 hz2 rfl (by decide) v l.length (flatV l) hs hB.1 ⟨g, off, none⟩ l2.length c (flatV l2) hx (flatV_len l2) (fun j u hu => by rw [Go.WideShapes.add_plain]; exact hc j u hu) (flatV_one l2) (by omega) (by unfold maxLen; omega) (by omega) hB.2.size w.heap.size rfl ?_
    intro g2 cap2 w' h2 h3 _ _
    refine h _ w' ⟨?_, hB.2.grown h3 hB.2.size (fun k hk => (hB.1.lt k hk).1)⟩
    rw [flatV_app, List.length_append]
    exact h2
theorem zc_size (z : Array Value) (n : Nat) : (Builtin.zeroCells z n).size = n * z.size := by simp [Builtin.zeroCells]
set_option maxRecDepth 20000 in
theorem grow_any (n : Nat) (hn : n ≤ 1000) (w : World) : Calls Tryd.prog 42 #[.slice none 0 0, .int .i64 (n : Int)] w fun e w' => ∃ v, e = .returned v ∧ Vf w w' v [] := by
  obtain ⟨i0, hi, hz0, hz1, hz2⟩ := info_parts infoV
  by_cases h0 : n = 0
  · subst h0
    show Calls Tryd.prog 42 #[.slice none 0 0, .int .i64 0] w _
    go_enter Tryd.func42, Tryd.ntmps42
    go_wp2
    go_ret
    exact ⟨_, rfl, World.ownsRow_nil _ _ _ _, Below.refl _ _⟩
  · have hr := fun ty => Lib.run_append_nil_zeros (P := Tryd.prog) w 22 3 ty 32 i0 _ .i64 .i64 Tryd.underlying22 Tryd.underlying3 hi hz0 n (by omega) (by omega) (by omega) (by rw [hz2]; omega)
    have hG : ∃ G, G = grownCap w n 0 32 ∧ n ≤ G ∧ G ≤ maxLen := ⟨_, rfl, grownCap_ge w _ _ _, grownCap_le_maxLen w n 0 _ (by unfold maxLen; omega)⟩
    obtain ⟨G, hG, hnG, hGm⟩ := hG
    rw [← hG] at hr
    have n0 : (0 : Int) < (n : Int) := by omega
    have hGi : (G : Int) ≤ 9223372036854775807 := by unfold maxLen at hGm; omega
    obtain ⟨cur, hcur⟩ : ∃ cur, cur = Builtin.zeroCells (Value.agg #[.int .i64 0, .int .i64 0, .string ⟨#[]⟩]).cells n ++ Builtin.zeroCells (Value.agg #[.int .i64 0, .int .i64 0, .string ⟨#[]⟩]).cells (G - n) := ⟨_, rfl⟩
    have hcs : cur.size = G * 3 := by rw [hcur, Array.size_append, zc_size, zc_size]; show n * 3 + (G - n) * 3 = _; omega
    rw [← hcur] at hr
    have HX := Lib.hid (show cur.size = G * 3 ∧ G ≤ maxLen from ⟨hcs, hGm⟩)
    clear hG hcur hcs hGm
    go_enter Tryd.func42, Tryd.ntmps42
    go_wp2_with (at_builtin; refine Lib.wpList_append_run _ rfl _ _ _ _ rfl _ _ rfl rfl _ _ (hr _) ?_)
    go_ret
    refine ⟨_, rfl, World.ownsRow_made w.drew cur G (Nat.le_refl _) HX.out.2 HX.out.1, ?_⟩
    exact (bdrew (Below.refl _ w)).alloc (Nat.le_refl _) _
set_option maxRecDepth 20000 in
set_option maxHeartbeats 1000000 in
theorem concat_any (a b c : List V3) (va vb vc : Value) (H : Nat) (w : World) (ha : Vs w va a) (hb : Vs w vb b) (hc : Vs w vc c) (la : a.length ≤ 50) (lb : b.length ≤ 50) (lc : c.length ≤ 50)
    (h0 : w.cell? ⟨H, 0, none⟩ = some va) (h1 : w.cell? ⟨H, 1, none⟩ = some vb) (h2 : w.cell? ⟨H, 2, none⟩ = some vc) :
    Calls Tryd.prog 19 #[.slice (some ⟨H, 0, none⟩) 3 3] w fun e w' => ∃ v, e = .returned v ∧ Vf w w' v (a ++ b ++ c) := by
  obtain ⟨a1, c1, rfl⟩ := ha.form
  obtain ⟨a2, c2, rfl⟩ := hb.form
  obtain ⟨a3, c3, rfl⟩ := hc.form
  obtain ⟨n1, hn1⟩ : ∃ n, n = a.length := ⟨_, rfl⟩
  obtain ⟨n2, hn2⟩ : ∃ n, n = b.length := ⟨_, rfl⟩
  obtain ⟨n3, hn3⟩ : ∃ n, n = c.length := ⟨_, rfl⟩
  have HG := grow_any (n1 + n2 + n3) (by omega) w
  rw [show ((n1 + n2 + n3 : Nat) : Int) = (n1 : Int) + (n2 : Int) + (n3 : Int) by omega] at HG
  have HA := Lib.hid (fun (W : World) (h : Below w.heap.size w W) => Sl.below (show Vs w (.slice a1 n1 c1) a by rw [hn1]; exact ha) h)
  have HB := Lib.hid (fun (W : World) (h : Below w.heap.size w W) => Sl.below (show Vs w (.slice a2 n2 c2) b by rw [hn2]; exact hb) h)
  have HC := Lib.hid (fun (W : World) (h : Below w.heap.size w W) => Sl.below (show Vs w (.slice a3 n3 c3) c by rw [hn3]; exact hc) h)
  have HN := Lib.hid (show a.length ≤ 50 ∧ b.length ≤ 50 ∧ c.length ≤ 50 from ⟨la, lb, lc⟩)
  rw [← hn1] at la h0
  rw [← hn2] at lb h1
  rw [← hn3] at lc h2
  have HE := Lib.hid (show n1 = a.length ∧ n2 = b.length ∧ n3 = c.length from ⟨hn1, hn2, hn3⟩)
  clear ha hb hc hn1 hn2 hn3
  have k1 : ¬ (n1 : Int) < 0 := by omega
  have k2 : ¬ (n1 : Int) + (n2 : Int) < 0 := by omega
  have k3 : ¬ (n1 : Int) + (n2 : Int) + (n3 : Int) < 0 := by omega
  go_enter Tryd.func19, Tryd.ntmps19
  go_wp2
  refine wp_loop_rounds 4 ?_
  rw [rounds_succ]
  go_wp2
  rw [rounds_succ]
  go_wp2
  rw [rounds_succ]
  go_wp2
  rw [rounds_succ]
  go_upto_region 10 with (go_at_call 42; (with_reducible refine HG.mono ?_); rintro e w1 ⟨v, rfl, hv⟩; have hL := Lib.hid hv.2)
  have d0 := Go.Proofs.YtgfppajbegcaeaaDoor.Sl.cell_kept h0 hL.out
  have d1 := Go.Proofs.YtgfppajbegcaeaaDoor.Sl.cell_kept h1 hL.out
  have d2 := Go.Proofs.YtgfppajbegcaeaaDoor.Sl.cell_kept h2 hL.out
  go_wp2
  refine wp_loop_rounds 4 ?_
  rw [rounds_succ]
  go_wp2_with (at_builtin; refine wp_vals hv rfl (.tmp 31) (.tmp 32) rfl rfl rfl (HA.out _ hv.2) (by have := HN.out; simp; omega) ?_; intro v1 w2 hv1; have e0 := Go.Proofs.YtgfppajbegcaeaaDoor.Sl.cell_kept h0 hv1.2; have e1 := Go.Proofs.YtgfppajbegcaeaaDoor.Sl.cell_kept h1 hv1.2; have e2 := Go.Proofs.YtgfppajbegcaeaaDoor.Sl.cell_kept h2 hv1.2)
  rw [rounds_succ]
  go_wp2_with (at_builtin; refine wp_vals hv1 rfl (.tmp 31) (.tmp 32) rfl rfl rfl (HB.out _ hv1.2) (by have := HN.out; simp; omega) ?_; intro v2 w3 hv2; have f0 := Go.Proofs.YtgfppajbegcaeaaDoor.Sl.cell_kept h0 hv2.2; have f1 := Go.Proofs.YtgfppajbegcaeaaDoor.Sl.cell_kept h1 hv2.2; have f2 := Go.Proofs.YtgfppajbegcaeaaDoor.Sl.cell_kept h2 hv2.2)
  rw [rounds_succ]
  go_wp2_with (at_builtin; refine wp_vals hv2 rfl (.tmp 31) (.tmp 32) rfl rfl rfl (HC.out _ hv2.2) (by have := HN.out; simp; omega) ?_; intro v3 w4 hv3)
  rw [rounds_succ]
  go_wp2
  go_ret
  refine ⟨_, rfl, ?_⟩
  rw [List.nil_append] at hv3
  exact hv3
end Go.Proofs.YtgfppajbegcaeaaDoor.Va
