/-
  The walk of Holds (layer 33).
-/
import Derived.Test.YtgfppajbegcaeaaDoorVcZ
import Derived.Test.YtgfppajbegcaeaaDoorVaQ
set_option linter.unusedSimpArgs false
set_option linter.unusedVariables false
namespace Go.Proofs.YtgfppajbegcaeaaDoor.Va
open Go.RowKit Go.ChangeShapes Go.WideShapes Go.Proofs.YtgfppajbegcaeaaDoor.Sl Go.Lib

theorem infoC : (Tryd.prog.info? 80).map (fun i => (i.zero, i.size, i.bytes)) = some (some (.agg #[.string ⟨#[]⟩, .int .i64 0]), 2, 24) := by kernel_rfl
/-- The slice v is the call's own and holds the columns l. -/
def Cf (W0 w : World) (v : Value) (l : List Cl) : Prop := w.ownsRow W0.heap.size 80 2 v l.length (flatC l) ∧ Below W0.heap.size W0 w
theorem Cf.cs {W0 w : World} {v : Value} {l : List Cl} (h : Cf W0 w v l) : Cs w v l := Sl.of_owns h.1
theorem wp_col {ops : Array Oper} {rest : List Oper} {o : Oper} {a : Act} {Q : Exit → Act → World → Prop} {W0 w : World} {v : Value} {l : List Cl} (hB : Cf W0 w v l) (hgd : o.guard = none) (s x : Operand)
    (ho : o.op = .call { callee := .builtin .append, args := #[s, x], argTypes := #[48, 48] }) (hs : a.eval s = v) {H : Nat} (te : TypeId)
    (hx : a.eval x = .slice (some ⟨H, 0, none⟩) 1 1) (hH : w.heap.size = H) (u : ByteArray) (z : Int) (hlen : l.length ≤ 1000000)
    (h : ∀ v' w', Cf W0 w' v' (l ++ [(u, z)]) → wpList Tryd.prog ops Q rest (a.put o.dst v') w') : wpList Tryd.prog ops Q (o :: rest) a (w.alloc (.cells #[.string u, .int .i64 z] te)) := by
  obtain ⟨i0, hi, hz0, hz1, hz2⟩ := info_parts infoC
  subst hH
  have ho1 := hB.1.alloc (.cells #[.string u, .int .i64 z] te)
  refine wpList_append_lies _ hgd s x _ ho W0.heap.size _ i0 _ 2 24 Tryd.underlying48 hi hz0 hz1 hz2 rfl (by decide) v l.length (flatC l) hs ho1 ⟨w.heap.size, 0, none⟩ 1 1 [.string u, .int .i64 z] hx rfl (cells_new w [.string u, .int .i64 z] te) (by intro x hx; simp at hx; rcases hx with rfl | rfl <;> rfl) (by omega) (by unfold maxLen; omega) (by omega) (by have := hB.2.size; simp; omega) (w.heap.size + 1) (by simp) ?_
  intro g cap w' h2 h3 _ _
  refine h _ w' ⟨?_, (hB.2.alloc hB.2.size _).grown h3 (by have := hB.2.size; simp; omega) (fun k hk => (ho1.lt k hk).1)⟩
  rw [flatC_snoc, List.length_append]
  exact h2
/-- The slice s holds the texts l. -/
abbrev Ss (w : World) (s : Value) (l : List ByteArray) : Prop := Sl w s l.length 1 (l.map .string)
theorem ss_get {w : World} {g off : Nat} {l : List ByteArray} (hc : ∀ j u, (l.map Value.string)[j]? = some u → w.cell? ⟨g, off + j, none⟩ = some u) {k : Nat} {a : ByteArray} (h : l[k]? = some a) : w.cell? ⟨g, off + k, none⟩ = some (.string a) :=
  hc k _ (by rw [List.getElem?_map, h]; rfl)
theorem colsOf_take : ∀ (ns : List ByteArray) (vs : List V3) (k : Nat) (a : ByteArray) (v : V3), ns[k]? = some a → vs[k]? = some v → colsOf (ns.take (k + 1)) (vs.take (k + 1)) = colsOf (ns.take k) (vs.take k) ++ [(a, v.1)]
  | [], _, k, a, v, h, _ => by simp at h
  | _ :: _, [], k, a, v, _, h => by simp at h
  | n :: ns, x :: vs, 0, a, v, h1, h2 => by
    simp at h1 h2
    subst h1 h2
    rfl
  | n :: ns, x :: vs, k + 1, a, v, h1, h2 => by
    rw [List.take_succ_cons, List.take_succ_cons, List.take_succ_cons, List.take_succ_cons, colsOf, colsOf, colsOf_take ns vs k a v (by simpa using h1) (by simpa using h2)]
    rfl
theorem colsOf_len : ∀ (ns : List ByteArray) (vs : List V3), ns.length = vs.length → (colsOf ns vs).length = vs.length
  | [], [], _ => rfl
  | n :: ns, x :: vs, h => by rw [colsOf, List.length_cons, List.length_cons, colsOf_len ns vs (by simpa using h)]
  | [], _ :: _, h => by simp at h
  | _ :: _, [], h => by simp at h
theorem colsOf_take_len (ns : List ByteArray) (vs : List V3) (k : Nat) (h : ns.length = vs.length) (hk : k ≤ vs.length) : (colsOf (ns.take k) (vs.take k)).length = k := by
  rw [colsOf_len _ _ (by simp [h])]; simp; omega
theorem box7 {w w1 : World} {c0 c1 c2 c3 c4 c5 c6 : Value} {t : TypeId} (hb : Below (w.alloc (.cells #[c0, c1, c2, c3, c4, c5, c6] t)).heap.size (w.alloc (.cells #[c0, c1, c2, c3, c4, c5, c6] t)) w1) :
    Below w.heap.size w w1 ∧ w1.cell? ⟨w.heap.size, 0, none⟩ = some c0 ∧ w1.cell? ⟨w.heap.size, 1, none⟩ = some c1 ∧ w1.cell? ⟨w.heap.size, 2, none⟩ = some c2 ∧ w1.cell? ⟨w.heap.size, 3, none⟩ = some c3 ∧ w1.cell? ⟨w.heap.size, 4, none⟩ = some c4 ∧ w1.cell? ⟨w.heap.size, 5, none⟩ = some c5 ∧ w1.cell? ⟨w.heap.size, 6, none⟩ = some c6 := by
  have k : ∀ j u, #[c0, c1, c2, c3, c4, c5, c6][j]? = some u → w1.cell? ⟨w.heap.size, j, none⟩ = some u := fun j u hu => Go.Proofs.YtgfppajbegcaeaaDoor.Sl.cell_kept (box_cell (box_new w _ _) j u hu) hb
  exact ⟨bstep ((Below.refl _ w).alloc (Nat.le_refl _) _) hb, k 0 _ rfl, k 1 _ rfl, k 2 _ rfl, k 3 _ rfl, k 4 _ rfl, k 5 _ rfl, k 6 _ rfl⟩

set_option maxRecDepth 20000 in
theorem holds_len (k : Int) (col oth : ByteArray) (v0 v1 : Int) (v2 : ByteArray) (s : Value) (a1 a2 : Option Addr) (n m c1 c2 : Nat) (w : World) (h : ¬ n = m) :
    Calls Tryd.prog 25 #[agC k col oth v0 v1 v2 s, .slice a1 n c1, .slice a2 m c2] w fun e w' => e = .returned (.tuple #[.bool false, .int .i64 1]) ∧ Below w.heap.size w w' := by
  have h1 : ¬ (n : Int) = (m : Int) := by omega
  have h2 : ((n : Int) == (m : Int)) = false := by simp; omega
  go_enter Tryd.func25, Tryd.ntmps25
  go_wp2
  go_ret2
  exact ⟨rfl, by go_grown⟩
set_option maxRecDepth 20000 in
theorem holds_many (k : Int) (col oth : ByteArray) (v0 v1 : Int) (v2 : ByteArray) (s : Value) (a1 a2 : Option Addr) (n c1 c2 : Nat) (w : World) (h : (100 : Int) < (n : Int)) :
    Calls Tryd.prog 25 #[agC k col oth v0 v1 v2 s, .slice a1 n c1, .slice a2 n c2] w fun e w' => e = .returned (.tuple #[.bool false, .int .i64 1]) ∧ Below w.heap.size w w' := by
  go_enter Tryd.func25, Tryd.ntmps25
  go_wp2
  go_ret2
  exact ⟨rfl, by go_grown⟩
set_option maxRecDepth 20000 in
theorem holds_bad (k : Int) (col oth : ByteArray) (v0 v1 : Int) (v2 : ByteArray) (s : Value) (a1 a2 : Option Addr) (n c1 c2 : Nat) (w : World) (h : (n : Int) ≤ 100)
    (HA : ∀ W, Below w.heap.size w W → Calls Tryd.prog 40 #[.slice a2 n c2] W fun e w' => e = .returned (.bool false) ∧ Below W.heap.size W w') :
    Calls Tryd.prog 25 #[agC k col oth v0 v1 v2 s, .slice a1 n c1, .slice a2 n c2] w fun e w' => e = .returned (.tuple #[.bool false, .int .i64 1]) ∧ Below w.heap.size w w' := by
  go_enter Tryd.func25, Tryd.ntmps25
  go_wp2_with (go_at_call 40; (with_reducible refine (HA _ (by go_grown)).mono ?_); rintro e w1 ⟨rfl, hb⟩; have hL : Below w.heap.size w w1 := bstep (by go_grown) hb; clear hb)
  go_ret2
  exact ⟨rfl, hL⟩
set_option maxRecDepth 20000 in
set_option maxHeartbeats 1000000 in
theorem holds_go (c : CN) (k : Int) (col oth : ByteArray) (v0 v1 : Int) (v2 : ByteArray) (s : Value) (ns : List ByteArray) (vs : List V3) (a1 a2 : Option Addr) (n c1 c2 : Nat) (w : World) (hc : CnAt w [.int .i64 k, .string col, .string oth, .int .i64 v0, .int .i64 v1, .string v2, s] c)
    (hn : n = vs.length) (hn2 : ns.length = vs.length) (h100 : (n : Int) ≤ 100) (hv : allV vs = true) (hs1 : Ss w (.slice a1 n c1) ns) (hs2 : Vs w (.slice a2 n c2) vs) :
    Calls Tryd.prog 25 #[agC k col oth v0 v1 v2 s, .slice a1 n c1, .slice a2 n c2] w fun e w' => e = .returned (.tuple #[.bool (holdsC c ns vs).1, .int .i64 (holdsC c ns vs).2]) ∧ Below w.heap.size w w' := by
  have HA := fun (W : World) (h : Below w.heap.size w W) => all_any vs (.slice a2 n c2) W (by omega) (hs2.below h)
  rw [hv] at HA
  have HC := Lib.hid hc
  have HS1 := Lib.hid hs1
  have HS2 := Lib.hid hs2
  have HN := Lib.hid (show n = vs.length ∧ ns.length = vs.length from ⟨hn, hn2⟩)
  have HD : Hid (holdsC c ns vs = if chk c (colsOf ns vs) = 0 then (mng c (colsOf ns vs) vs, 0) else (false, chk c (colsOf ns vs))) := Lib.hid (by unfold holdsC; rw [if_neg (by rw [hv]; simp; omega)])
  clear hc hs1 hs2 hn hn2 hv
  generalize holdsC c ns vs = R at HD ⊢
  go_enter Tryd.func25, Tryd.ntmps25
  go_upto_region 3 with (go_at_call 40; (with_reducible refine (HA _ (by go_grown)).mono ?_); rintro e W0 ⟨rfl, hb⟩; obtain ⟨hL, p0, p1, p2, p3, p4, p5, p6⟩ := box7 hb; clear hb)
  clear HA
  have HL0 := Lib.hid hL
  clear hL
  go_wp2
  go_loopw [8, 9, 10, 29] (fun v _ _ i wr => ∃ j : Nat, j ≤ n ∧ i = .int .i64 j ∧ Cf W0 wr v (colsOf (ns.take j) (vs.take j))) (fun _ _ _ i _ => n - (intOf i).toNat)
  case atStart => exact ⟨0, Nat.zero_le _, rfl, World.ownsRow_nil _ _ _ _, Below.refl _ _⟩
  case round =>
    obtain ⟨j, hj, rfl, hB⟩ := hrel
    have hlen := colsOf_take_len ns vs j HN.out.2 (by rw [← HN.out.1]; exact hj)
    by_cases hlt : j < n
    · obtain ⟨a, ha⟩ : ∃ t, ns[j]? = some t := ⟨_, List.getElem?_eq_getElem (by rw [HN.out.2, ← HN.out.1]; exact hlt)⟩
      obtain ⟨⟨x0, x1, x2⟩, hx⟩ : ∃ t, vs[j]? = some t := ⟨_, List.getElem?_eq_getElem (by rw [← HN.out.1]; exact hlt)⟩
      obtain ⟨g1, o1, cp1, e1, hc1⟩ := HS1.out.open (by rw [HN.out.2, ← HN.out.1]; omega)
      simp only [Value.slice.injEq] at e1
      obtain ⟨rfl, _, rfl⟩ := e1
      obtain ⟨g2, o2, cp2, e2, hc2⟩ := HS2.out.open (by rw [← HN.out.1]; omega)
      simp only [Value.slice.injEq] at e2
      obtain ⟨rfl, _, rfl⟩ := e2
      have hLr := bstep HL0.out hB.2
      have q0 := Go.Proofs.YtgfppajbegcaeaaDoor.Sl.cell_kept (ss_get hc1 ha) hLr
      have q1 := Go.Proofs.YtgfppajbegcaeaaDoor.Sl.cell_kept (vs_get hc2 hx).1 hLr
      have HT := Lib.hid (colsOf_take ns vs j a _ ha hx)
      have j0 : (0 : Int) ≤ (j : Int) := by omega
      have j1 : (j : Int) < (n : Int) := by omega
      clear hc1 hc2 ha hx hLr
      go_wp2_with (at_builtin; refine wp_col hB rfl (.tmp 34) (.tmp 42) rfl rfl 80 rfl (by simp) a x0 (by rw [hlen]; omega) ?_; intro v1 w1 hB1)
      go_roundw
      case rel => exact ⟨v1, .int .i64 j, .string a, .int .i64 ((j : Int) + 1), ⟨j + 1, by omega, by go_num, by rw [HT.out]; exact hB1⟩, rfl, rfl, rfl, rfl⟩
      case measure => simp [intOf]; omega
    · have e1 : ns.take j = ns := List.take_of_length_le (by rw [HN.out.2, ← HN.out.1]; omega)
      have e2 : vs.take j = vs := List.take_of_length_le (by rw [← HN.out.1]; omega)
      rw [e1, e2] at hB hlen
      have hLr := bstep HL0.out hB.2
      replace p0 := Go.Proofs.YtgfppajbegcaeaaDoor.Sl.cell_kept p0 hB.2
      replace p1 := Go.Proofs.YtgfppajbegcaeaaDoor.Sl.cell_kept p1 hB.2
      replace p2 := Go.Proofs.YtgfppajbegcaeaaDoor.Sl.cell_kept p2 hB.2
      replace p3 := Go.Proofs.YtgfppajbegcaeaaDoor.Sl.cell_kept p3 hB.2
      replace p4 := Go.Proofs.YtgfppajbegcaeaaDoor.Sl.cell_kept p4 hB.2
      replace p5 := Go.Proofs.YtgfppajbegcaeaaDoor.Sl.cell_kept p5 hB.2
      replace p6 := Go.Proofs.YtgfppajbegcaeaaDoor.Sl.cell_kept p6 hB.2
      have HQ := check_any c _ (colsOf ns vs) (by rw [hlen]; omega) _ wr (CnAt.below hLr _ _ HC.out) hB.cs
      by_cases hz : chk c (colsOf ns vs) = 0
      · have HW : wellF c = true := by
          cases hw : wellF c
          · unfold chk at hz; rw [hw] at hz; cases hz
          · rfl
        have HM := fun (W : World) (h : Below wr.heap.size wr W) => mg_any (colsOf ns vs) vs (by rw [hlen]; omega) (by rw [hlen, ← HN.out.1]; omega) c _ 1 _ (.slice a2 n c2) W (CnAt.below h _ _ (CnAt.below hLr _ _ HC.out)) (wellF_good HW) (by unfold chk at hz; rw [HW] at hz; exact hz) (hB.cs.below h) ((HS2.out.below hLr).below h)
        have HR := HD.out
        rw [if_pos hz] at HR
        rw [hz] at HQ
        generalize mng c (colsOf ns vs) vs = mb at HM HR
        have HR2 := Lib.hid HR
        clear hz HR
        go_wp2_with (first | (go_at_call 27; with_reducible refine HQ.mono ?_; rintro e w2 ⟨rfl, hb2⟩; have r0 := Go.Proofs.YtgfppajbegcaeaaDoor.Sl.cell_kept p0 hb2; have r1 := Go.Proofs.YtgfppajbegcaeaaDoor.Sl.cell_kept p1 hb2; have r2 := Go.Proofs.YtgfppajbegcaeaaDoor.Sl.cell_kept p2 hb2; have r3 := Go.Proofs.YtgfppajbegcaeaaDoor.Sl.cell_kept p3 hb2; have r4 := Go.Proofs.YtgfppajbegcaeaaDoor.Sl.cell_kept p4 hb2; have r5 := Go.Proofs.YtgfppajbegcaeaaDoor.Sl.cell_kept p5 hb2; have r6 := Go.Proofs.YtgfppajbegcaeaaDoor.Sl.cell_kept p6 hb2) | (go_at_call 49; with_reducible refine (HM _ hb2).mono ?_; rintro e w3 ⟨rfl, hb3⟩))
        go_ret2
        exact ⟨by rw [HR2.out]; rfl, bstep (bstep hLr hb2) hb3⟩
      · have HR := HD.out
        rw [if_neg hz] at HR
        generalize chk c (colsOf ns vs) = z at HQ HR hz
        have HR2 := Lib.hid HR
        have hz2 : (z == 0) = false := by simpa using hz
        clear HR
        go_wp2_with (go_at_call 27; with_reducible refine HQ.mono ?_; rintro e w2 ⟨rfl, hb2⟩)
        go_ret2
        exact ⟨by rw [HR2.out]; rfl, bstep hLr hb2⟩
end Go.Proofs.YtgfppajbegcaeaaDoor.Va
