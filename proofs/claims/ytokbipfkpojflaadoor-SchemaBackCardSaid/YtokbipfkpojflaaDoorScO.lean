/-
  The walk of Order (layer 34).
-/
import Derived.Test.YtokbipfkpojflaaDoorScA
import Derived.Test.YtokbipfkpojflaaDoorScY
import Derived.RangeFuncBox
import Derived.Deep.RegionHeldLaw
set_option linter.unusedSimpArgs false
set_option linter.unusedVariables false
namespace Go.Proofs.YtokbipfkpojflaaDoor.Sc
open Go Go.RowKit Go.ChangeShapes Go.WideShapes Go.Proofs.YtokbipfkpojflaaDoor.Sl Go.Proofs.YtokbipfkpojflaaDoor.Va Go.Lib

/-- A foreign key that waits for another table. -/
def waitF (name : ByteArray) (out : List ByteArray) (f : Fr) : Bool := !decide (f.tab = name) && !Lib.containsS out f.tab
/-- A schema that may come next. -/
def rdyS (out : List ByteArray) (s : Sch) : Bool := !Lib.containsS out s.name && !(s.frn.any (waitF s.name out))
/-- The order, from what stands there already. -/
def ordF (l : List Sch) : Nat → List ByteArray → Option (List ByteArray)
  | 0, out => some out
  | n + 1, out => if idxP (rdyS out) 0 l < 0 then none else ordF l n (out ++ [((l[(idxP (rdyS out) 0 l).toNat]?).getD default).name])
/-- What Order returns. -/
def ordS (l : List Sch) : List ByteArray × Int := if (allS l).2 = 0 then (match ordF l l.length [] with | some o => (o, 0) | none => ([], 17)) else ([], (allS l).2)
theorem enter_ord (args : Array Value) (w : World) : (callFunc 42 args).run Tryd.prog w = .ok (.enter 42 args) w := by simp [go_sem, Tryd.func42]
theorem enter_ord1 (args : Array Value) (w : World) : (callFunc 44 args).run Tryd.prog w = .ok (.enter 44 args) w := by simp [go_sem, Tryd.func44]
/-- The list that the closures read. -/
def OutI (B : Nat) (out : List ByteArray) (a : Option Addr) (n c : Nat) (W : World) : Prop := W.cell? ⟨B, 0, none⟩ = some (.slice a n c) ∧ Ss W (.slice a n c) out
theorem OutI.step {B : Nat} {out : List ByteArray} {a : Option Addr} {n c : Nat} {W W' : World} (h : OutI B out a n c W) (hb : Below W.heap.size W W') : OutI B out a n c W' := ⟨Go.Proofs.YtokbipfkpojflaaDoor.Sl.cell_kept h.1 hb, h.2.below hb⟩
theorem ordc_any (out : List ByteArray) (ho : out.length ≤ 1000000) (B S : Nat) (a : Option Addr) (n c : Nat) (name tab : ByteArray) (a1 : Option Addr) (n1 c1 : Nat) (w : World) (hI : OutI B out a n c w) (hS : w.cell? ⟨S, 0, none⟩ = some (.string name)) :
    Calls Tryd.prog 44 #[.agg #[.slice a1 n1 c1, .string tab], .pointer (some ⟨S, 0, none⟩), .pointer (some ⟨B, 0, none⟩)] w fun e w' => e = .returned (.bool (!decide (tab = name) && !Lib.containsS out tab)) ∧ Below w.heap.size w w' := by
  have hB := block_of_cell hI.1
  have hSl := block_of_cell hS
  have hc0 := hI.1
  have HC := fun W (h : Below w.heap.size w W) => contains_any out (.slice a n c) tab W ho (hI.2.below h)
  by_cases h : tab = name
  · subst h
    clear HC hI
    rw [decide_eq_true rfl]
    go_enter Tryd.func44, Tryd.ntmps44
    go_wp2
    go_ret
    exact ⟨rfl, by go_grown⟩
  · have h3 : (tab.toList != name.toList) = true := by rw [bne, (Lib.bytes_beq_false_iff tab name).2 h]; rfl
    have h4 : (tab.toList == name.toList) = false := (Lib.bytes_beq_false_iff tab name).2 h
    rw [decide_eq_false h]
    generalize Lib.containsS out tab = z at HC ⊢
    clear hI h
    go_enter Tryd.func44, Tryd.ntmps44
    go_wp2_with (go_at_call 43; with_reducible refine (HC _ (by go_grown)).mono ?_; rintro e w1 ⟨rfl, rfl⟩)
    go_ret
    exact ⟨rfl, by go_grown⟩
theorem ready_any (out : List ByteArray) (ho : out.length ≤ 1000000) (B : Nat) (a : Option Addr) (n c : Nat) (w : World) (s : Sch) (a1 a2 : Option Addr) (c1 c2 : Nat) (hfl : s.frn.length ≤ 1000000) (hI : OutI B out a n c w) (hf : FsAt w (.slice a2 s.frn.length c2) s.frn) :
    Calls Tryd.prog 42 #[agS s.name (.slice a1 s.cols.length c1) s.key (.slice a2 s.frn.length c2), .pointer (some ⟨B, 0, none⟩)] w fun e w' => e = .returned (.bool (rdyS out s)) ∧ Below w.heap.size w w' := by
  have hB := block_of_cell hI.1
  have hc0 := hI.1
  have HC := fun W (h : Below w.heap.size w W) => contains_any out (.slice a n c) s.name W ho (hI.2.below h)
  have HA := fun W (h : Below w.heap.size w W) (hS : W.cell? ⟨w.heap.size, 0, none⟩ = some (.string s.name)) => has_frn2 44 enter_ord1 (.pointer (some ⟨w.heap.size, 0, none⟩)) (.pointer (some ⟨B, 0, none⟩)) (waitF s.name out) (fun W => OutI B out a n c W ∧ W.cell? ⟨w.heap.size, 0, none⟩ = some (.string s.name))
    (fun W W' hW hb => ⟨hW.1.step hb, Go.Proofs.YtokbipfkpojflaaDoor.Sl.cell_kept hW.2 hb⟩) s.frn (fun W f a1 c1 _ hW _ => ordc_any out ho B w.heap.size a n c s.name f.tab a1 _ c1 W hW.1 hW.2) hfl _ W (hf.below (fun r x hx => hx.below h) h) ⟨hI.step h, hS⟩
  unfold rdyS
  generalize Lib.containsS out s.name = x at HC ⊢
  generalize s.frn.any (waitF s.name out) = y at HA ⊢
  generalize s.cols.length = m1 at *
  generalize s.frn.length = m2 at *
  clear hI hf
  cases x
  · go_enter Tryd.func42, Tryd.ntmps42
    go_wp2_with (first | (go_at_call 43; with_reducible refine (HC _ (by go_grown)).mono ?_; rintro e w1 ⟨rfl, rfl⟩) | (go_at_call 18; with_reducible refine (HA _ (by go_grown) (by simp)).mono ?_; rintro e w2 ⟨rfl, hb⟩; have hw2 : Below w.heap.size w w2 := bstep (by go_grown) hb))
    go_ret
    exact ⟨rfl, hw2⟩
  · go_enter Tryd.func42, Tryd.ntmps42
    go_wp2_with (first | (go_at_call 43; with_reducible refine (HC _ (by go_grown)).mono ?_; rintro e w1 ⟨rfl, rfl⟩))
    go_ret
    exact ⟨rfl, by go_grown⟩
theorem fltA_code (all : List Sch) : ∀ (l : List Sch) (i : Nat), (∃ x, fltA all i l = some x ∧ ¬ x.2 = 0) ∨ (fltA all i l = none ∧ ∀ s ∈ l, vldS s = true)
  | [], i => .inr ⟨rfl, by simp⟩
  | s :: l, i => by
    unfold fltA
    by_cases h1 : vldS s = false
    · rw [if_pos h1]; exact .inl ⟨_, rfl, by simp⟩
    · rw [if_neg h1]
      by_cases h2 : 0 ≤ fndS s.name 0 (all.take i)
      · rw [if_pos h2]; exact .inl ⟨_, rfl, by simp⟩
      · rw [if_neg h2]
        rcases fltA_code all l (i + 1) with h | ⟨h, h3⟩
        · exact .inl h
        · refine .inr ⟨h, ?_⟩
          intro x hx
          rcases List.mem_cons.1 hx with rfl | hx
          · simpa using h1
          · exact h3 x hx
theorem allS_ok {l : List Sch} (h : (allS l).2 = 0) : l.length ≤ 8 ∧ ∀ s ∈ l, vldS s = true := by
  unfold allS at h
  by_cases h8 : 8 < l.length
  · rw [if_pos h8] at h; simp at h
  · rw [if_neg h8] at h
    rcases fltA_code l l 0 with ⟨x, hx, h0⟩ | ⟨_, h1⟩
    · rw [hx] at h; exact absurd h h0
    · exact ⟨by omega, h1⟩
theorem order_bad (l : List Sch) (s : Value) (w : World) (hs : LsAt w s l) (h : ¬ (allS l).2 = 0) : Calls Tryd.prog 13 #[s] w fun e w' => e = .returned (.tuple #[.slice none 0 0, .int .i64 (allS l).2]) ∧ Below w.heap.size w w' := by
  have HA := all_any l s w hs
  obtain ⟨a, c, rfl, _⟩ := Nest.form hs
  generalize (allS l).1 = x at HA
  generalize (allS l).2 = y at HA h ⊢
  have h2 : (y != 0) = true := by simpa using h
  clear hs
  go_enter Tryd.func13, Tryd.ntmps13
  go_wp2_with (go_at_call 41; with_reducible refine HA.mono ?_; rintro e w1 ⟨rfl, hb⟩)
  go_ret2
  exact ⟨rfl, hb⟩
def lenV : Option Value → Nat
  | some (.slice _ n _) => n
  | _ => 0
/-- What Order's loop keeps. -/
def OrdR (w : World) (B : Nat) (out : List ByteArray) (W : World) : Prop := ∃ v, Boxed W B 37 v ∧ W.ownsRow w.heap.size 9 1 v out.length (out.map .string) ∧ Below w.heap.size w W
set_option maxRecDepth 20000 in
set_option maxHeartbeats 2000000 in
theorem order_go (l : List Sch) (a : Option Addr) (n c : Nat) (w : World) (hn : n = l.length) (hs : LsAt w (.slice a n c) l) (h : (allS l).2 = 0) :
    Calls Tryd.prog 13 #[.slice a n c] w fun e w' => ∃ v, e = .returned (.tuple #[v, .int .i64 (ordS l).2]) ∧ Ss w' v (ordS l).1 ∧ Below w.heap.size w w' := by
  have HA := all_any l _ w hs
  obtain ⟨h8, hv⟩ := allS_ok h
  have HO := Lib.hid (show ordS l = (match ordF l (n - ([] : List ByteArray).length) [] with | some o => (o, 0) | none => ([], 17)) by unfold ordS; rw [if_pos h, hn]; rfl)
  rw [h] at HA
  generalize (allS l).1 = x at HA
  generalize ordS l = R at HO ⊢
  have HN := Lib.hid hn
  have HS := Lib.hid hs
  have HV := Lib.hid hv
  have n8 : (n : Int) ≤ 8 := by omega
  clear hs h hn hv h8
  go_enter Tryd.func13, Tryd.ntmps13
  go_wp2_with (go_at_call 41; with_reducible refine HA.mono ?_; rintro e w1 ⟨rfl, hb⟩)
  have hb0 := Boxed.new w1 37 (.slice none 0 0)
  have hL0 : Below w.heap.size w (w1.alloc (.cells #[.slice none 0 0] 37)) := hb.alloc hb.size _
  have hBw : w.heap.size ≤ w1.heap.size := hb.size
  clear HA
  generalize w1.alloc (.cells #[.slice none 0 0] 37) = W1 at *
  generalize w1.heap.size = B at *
  go_loopw [8] (fun _ wr => ∃ out : List ByteArray, out.length ≤ n ∧ Hid (R = match ordF l (n - out.length) out with | some o => (o, 0) | none => ([], 17)) ∧ OrdR w B out wr) (fun _ wr => n - lenV (wr.cell? ⟨B, 0, none⟩))
  case atStart => exact ⟨[], Nat.zero_le _, Lib.hid HO.out, _, hb0, World.ownsRow_nil _ _ _ _, hL0⟩
  case round =>
    obtain ⟨out, ho, HI, v, hbx, hown, hL⟩ := hrel
    have hss : Ss wr v out := (show Tf w wr v out from ⟨hown, hL⟩).ss
    obtain ⟨va, vc, rfl, hvc⟩ := hss.form
    have c0 := hbx.cell
    have f0 := hbx.frozen
    by_cases hlt : out.length < n
    · have HIX := idx_sch 42 enter_ord (.pointer (some ⟨B, 0, none⟩)) (rdyS out) (OutI B out va out.length vc) (fun W W' hW hb => hW.step hb) l (fun W s a1 a2 c1 c2 hm hW _ hf => ready_any out (by omega) B va out.length vc W s a1 a2 c1 c2 (by have := (vld_key (HV.out s hm)).2.2.2.1; omega) hW hf) (by have := HN.out; omega) _ wr (HS.out.below hL) ⟨c0, hss⟩
      have hk0 : (out.length : Int) < (n : Int) := by omega
      rcases idxP_ge (rdyS out) l 0 with ⟨hz, _⟩ | ⟨hz, hz2, _, x, hx, hrx⟩
      · rw [hz] at HIX
        have HR := Lib.hid (show R = ([], 17) by
          have h := HI.out
          rw [show n - out.length = (n - out.length - 1) + 1 by omega, ordF, if_pos (by rw [hz]; decide)] at h
          exact h)
        clear hss hown hbx HI hz
        go_wp2_with (go_at_call 45; with_reducible refine HIX.mono ?_; rintro e w2 ⟨rfl, hb2⟩)
        go_ret2
        exact ⟨_, by rw [HR.out]; rfl, by rw [HR.out]; exact ⟨Sl.mk0 .., Cap.mk (Nat.le_refl _)⟩, bstep hL hb2⟩
      · obtain ⟨k, hk⟩ : ∃ k : Nat, idxP (rdyS out) 0 l = k := ⟨(idxP (rdyS out) 0 l).toNat, by omega⟩
        rw [hk] at HIX hx
        replace hx : l[k]? = some x := by simpa using hx
        have hkn : k < n := by have := HN.out; have := (List.getElem?_eq_some_iff.1 hx).1; omega
        have HR := Lib.hid (show R = match ordF l (n - (out ++ [x.name]).length) (out ++ [x.name]) with | some o => (o, 0) | none => ([], 17) by
          have h := HI.out
          rw [show n - out.length = (n - (out ++ [x.name]).length) + 1 by rw [List.length_append]; simp; omega, ordF, if_neg (by rw [hk]; omega), hk, Int.toNat_natCast, hx] at h
          exact h)
        obtain ⟨g, off, cp, e1, hc⟩ := ls_get (HN.out ▸ HS.out) (by rw [← HN.out]; omega)
        simp only [Value.slice.injEq] at e1
        obtain ⟨rfl, _, rfl⟩ := e1
        obtain ⟨a1, c1, a2, c2, _, _, z0, _⟩ := hc k x hx
        have y0 := Go.Proofs.YtokbipfkpojflaaDoor.Sl.cell_kept z0 hL
        have k0 : (0 : Int) ≤ (k : Int) := by omega
        have k1 : (k : Int) < (n : Int) := by omega
        obtain ⟨i0, hi, hz0, hz1, hz2'⟩ := info_parts infoS
        generalize hm : out.length = m at *
        have HM := Lib.hid hm
        have HZ0 := Lib.hid z0
        have HC0 := Lib.hid c0
        clear hss HI hz hz2 hc z0 hk hx hm
        go_upto_region 10 with (go_at_call 45; with_reducible refine HIX.mono ?_; rintro e w2 ⟨rfl, hb2⟩)
        have hL2 := bstep hL hb2
        have hbx2 : Boxed w2 B 37 (.slice va m vc) := (hb2.block B hbx.lt).trans hbx
        have hown2 : w2.ownsRow w.heap.size 9 1 (.slice va m vc) m (out.map .string) := by
          obtain ⟨q1, q2⟩ := hown
          refine ⟨q1, ?_⟩
          rcases q2 with ⟨q3, q4⟩ | ⟨g9, cap, cur, q3, hg, hh, h3⟩
          · exact .inl ⟨q3, q4⟩
          · refine .inr ⟨g9, cap, cur, q3, hg, ?_, h3⟩
            rw [hb2.block g9 (Array.getElem?_eq_some_iff.1 hh).1]; exact hh
        have y2 := Go.Proofs.YtokbipfkpojflaaDoor.Sl.cell_kept y0 hb2
        have c2' := hbx2.cell
        have hB2 := hbx2.lt
        have c3' := (hbx2.alloc (.cells #[.string x.name] 9)).cell
        clear hown hbx c0 f0 y0 hb2 HIX
        have hS : w2.drew.cell? ⟨g, off + k * 4, none⟩ = some (.string x.name) := y2
        refine wp_region_held_drew (S := fun V => V.cell? ⟨g, off + k * 4, none⟩ = some (.string x.name)) (by kernel_rfl) hS (fun hHeld => ?_)
        (refine wpAnyH_take (i := 1) (v := ?tkv1_1) rfl (by kernel_rfl) (by kernel_rfl) (by kernel_rfl) (fun _ _ _ h => h) (Or.inl ⟨by rfl, ?tky1_1⟩) (by assumption) ?tkr1_1; case tky1_1 => (intro V hV; (try dsimp only at hV); go_simp; (try with_reducible rfl)); try simp only [Act.put, List.setIfInBounds_toArray, List.set_cons_zero, List.set_cons_succ])
        (refine wpAnyH_take (i := 2) (v := ?tkv2_2) rfl (by kernel_rfl) (by kernel_rfl) (by kernel_rfl) (fun _ _ _ h => h) (Or.inl ⟨by rfl, ?tky2_2⟩) (by assumption) ?tkr2_2; case tky2_2 => (intro V hV; (try dsimp only at hV); go_simp; (try with_reducible rfl)); try simp only [Act.put, List.setIfInBounds_toArray, List.set_cons_zero, List.set_cons_succ])
        (refine wpAnyH_take (i := 3) (v := ?tkv3_3) rfl (by kernel_rfl) (by kernel_rfl) (by kernel_rfl) (fun _ _ _ h => h) (Or.inl ⟨by rfl, ?tky3_3⟩) (by assumption) ?tkr3_3; case tky3_3 => (intro V hV; (try dsimp only at hV); go_simp; (try with_reducible rfl)); try simp only [Act.put, List.setIfInBounds_toArray, List.set_cons_zero, List.set_cons_succ])
        (refine wpAnyH_take (i := 4) (v := ?tkv4_4) rfl (by kernel_rfl) (by kernel_rfl) (by kernel_rfl) (fun _ _ _ h => h) (Or.inl ⟨by rfl, ?tky4_4⟩) (by assumption) ?tkr4_4; case tky4_4 => (intro V hV; (try dsimp only at hV); go_simp; (try with_reducible rfl)); try simp only [Act.put, List.setIfInBounds_toArray, List.set_cons_zero, List.set_cons_succ])
        (refine wpAnyH_take (i := 5) (v := ?tkv5_5) rfl (by kernel_rfl) (by kernel_rfl) (by kernel_rfl) (fun _ _ _ h => h) (Or.inl ⟨by rfl, ?tky5_5⟩) (by assumption) ?tkr5_5; case tky5_5 => (intro V hV; (try dsimp only at hV); go_simp; (try with_reducible rfl)); try simp only [Act.put, List.setIfInBounds_toArray, List.set_cons_zero, List.set_cons_succ])
        refine wpAnyH_ready (rs := [0, 6]) (by kernel_rfl) (by simp) ?_
        refine AllReadyH.cons rfl (fun K hK => ?_) (AllReadyH.cons rfl (fun K hK => ?_) AllReadyH.nil)
        · go_simp
          refine hK.out _ _ hS (fun _ => ?_)
          clear hK K
          try simp only [Act.put, List.setIfInBounds_toArray, List.set_cons_zero, List.set_cons_succ]
          (refine wpAnyH_ready (rs := [6]) (by kernel_rfl) (by simp) ?_; refine AllReadyH.cons rfl (fun K hK => ?_) AllReadyH.nil; (try go_simp); refine hK.out _ _ (by exact Go.Proofs.YtokbipfkpojflaaDoor.Sl.cell_kept y2 (bdrew ((Below.refl _ w2).alloc (Nat.le_refl _) _))) (fun hHeld => ?_); clear hK K; try simp only [Act.put, List.setIfInBounds_toArray, List.set_cons_zero, List.set_cons_succ])
          refine wpAnyH_ready (rs := [7]) (by kernel_rfl) (by simp) ?_
          refine AllReadyH.cons rfl (fun K hK => ?_) AllReadyH.nil
          refine step_append_lies _ rfl _ _ 37 rfl w.heap.size 9 i0 (.string ⟨#[]⟩) 1 16 Tryd.underlying37 hi hz0 hz1 hz2' rfl (by decide) (.slice va m vc) m (out.map .string) rfl ((hown2.alloc _).drew) ⟨w2.heap.size, 0, none⟩ 1 1 [.string x.name] rfl rfl (World.news_of_block (cs := #[.string x.name]) (t := 9) (fr := (0, 0)) (heap_alloc_new w2 _)) (by simp [Value.oneCell']) (by decide) (by unfold maxLen; omega) (by omega) (by have := hL2.size; simp; omega) _ rfl ?_
          intro gg cap w3 hown3 hgr _ _
          have hL3 := grow_step (bdrew (hL2.alloc hL2.size _)) hgr (fun q hq => (hown2.lt q hq).1)
          obtain ⟨f1, f2, f3, _, _⟩ := Boxed.appended (W := w2.drew) (tmp := .cells #[.string x.name] 9) (show Boxed w2.drew B 37 (.slice va m vc) from hbx2) (by decide) hown2.drew hL2.size hBw hown3 hgr
          have hc1 := f1.cell
          have hf1 := f1.frozen
          refine hK.out _ _ (by exact Go.Proofs.YtokbipfkpojflaaDoor.Sl.cell_kept HZ0.out hL3) (fun _ => ?_)
          clear hK K
          try simp only [Act.put, List.setIfInBounds_toArray, List.set_cons_zero, List.set_cons_succ]
          have hL4 : Below w.heap.size w (w3.setCell ⟨B, 0, none⟩ (.slice (some ⟨gg, 0, none⟩) (m + 1) cap)) := hL3.setCell (p := ⟨B, 0, none⟩) hBw _
          (refine wpAnyH_ready (rs := [8]) (by kernel_rfl) (by simp) ?_; refine AllReadyH.cons rfl (fun K hK => ?_) AllReadyH.nil; (try go_simp); refine hK.out _ _ (by exact Go.Proofs.YtokbipfkpojflaaDoor.Sl.cell_kept HZ0.out hL4) (fun hHeld => ?_); clear hK K; try simp only [Act.put, List.setIfInBounds_toArray, List.set_cons_zero, List.set_cons_succ])
          refine wpAnyH_done (by kernel_rfl) ?_ _
          have hc2 := f2.cell
          clear hgr hown3
          go_wp2
          go_roundw
          case rel =>
            refine ⟨out ++ [x.name], by rw [List.length_append, HM.out]; simp; omega, HR, _, f2, ?_, hL4⟩
            rw [List.length_append, List.map_append, HM.out]
            exact f3
          case measure =>
            show n - lenV _ < n - lenV _
            rw [hc2, HC0.out]
            simp only [lenV]
            omega
        · go_simp
          refine hK.out _ _ (by exact Go.Proofs.YtokbipfkpojflaaDoor.Sl.cell_kept y2 (bdrew ((Below.refl _ w2).alloc (Nat.le_refl _) _))) (fun _ => ?_)
          clear hK K
          try simp only [Act.put, List.setIfInBounds_toArray, List.set_cons_zero, List.set_cons_succ]
          (refine wpAnyH_ready (rs := [0]) (by kernel_rfl) (by simp) ?_; refine AllReadyH.cons rfl (fun K hK => ?_) AllReadyH.nil; (try go_simp); refine hK.out _ _ (by exact Go.Proofs.YtokbipfkpojflaaDoor.Sl.cell_kept y2 (bdrew ((Below.refl _ w2).alloc (Nat.le_refl _) _))) (fun hHeld => ?_); clear hK K; try simp only [Act.put, List.setIfInBounds_toArray, List.set_cons_zero, List.set_cons_succ])
          refine wpAnyH_ready (rs := [7]) (by kernel_rfl) (by simp) ?_
          refine AllReadyH.cons rfl (fun K hK => ?_) AllReadyH.nil
          refine step_append_lies _ rfl _ _ 37 rfl w.heap.size 9 i0 (.string ⟨#[]⟩) 1 16 Tryd.underlying37 hi hz0 hz1 hz2' rfl (by decide) (.slice va m vc) m (out.map .string) rfl ((hown2.alloc _).drew) ⟨w2.heap.size, 0, none⟩ 1 1 [.string x.name] rfl rfl (World.news_of_block (cs := #[.string x.name]) (t := 9) (fr := (0, 0)) (heap_alloc_new w2 _)) (by simp [Value.oneCell']) (by decide) (by unfold maxLen; omega) (by omega) (by have := hL2.size; simp; omega) _ rfl ?_
          intro gg cap w3 hown3 hgr _ _
          have hL3 := grow_step (bdrew (hL2.alloc hL2.size _)) hgr (fun q hq => (hown2.lt q hq).1)
          obtain ⟨f1, f2, f3, _, _⟩ := Boxed.appended (W := w2.drew) (tmp := .cells #[.string x.name] 9) (show Boxed w2.drew B 37 (.slice va m vc) from hbx2) (by decide) hown2.drew hL2.size hBw hown3 hgr
          have hc1 := f1.cell
          have hf1 := f1.frozen
          refine hK.out _ _ (by exact Go.Proofs.YtokbipfkpojflaaDoor.Sl.cell_kept HZ0.out hL3) (fun _ => ?_)
          clear hK K
          try simp only [Act.put, List.setIfInBounds_toArray, List.set_cons_zero, List.set_cons_succ]
          have hL4 : Below w.heap.size w (w3.setCell ⟨B, 0, none⟩ (.slice (some ⟨gg, 0, none⟩) (m + 1) cap)) := hL3.setCell (p := ⟨B, 0, none⟩) hBw _
          (refine wpAnyH_ready (rs := [8]) (by kernel_rfl) (by simp) ?_; refine AllReadyH.cons rfl (fun K hK => ?_) AllReadyH.nil; (try go_simp); refine hK.out _ _ (by exact Go.Proofs.YtokbipfkpojflaaDoor.Sl.cell_kept HZ0.out hL4) (fun hHeld => ?_); clear hK K; try simp only [Act.put, List.setIfInBounds_toArray, List.set_cons_zero, List.set_cons_succ])
          refine wpAnyH_done (by kernel_rfl) ?_ _
          have hc2 := f2.cell
          clear hgr hown3
          go_wp2
          go_roundw
          case rel =>
            refine ⟨out ++ [x.name], by rw [List.length_append, HM.out]; simp; omega, HR, _, f2, ?_, hL4⟩
            rw [List.length_append, List.map_append, HM.out]
            exact f3
          case measure =>
            show n - lenV _ < n - lenV _
            rw [hc2, HC0.out]
            simp only [lenV]
            omega
    · have HR := Lib.hid (show R = (out, 0) by
        have h := HI.out
        rw [show n - out.length = 0 by omega] at h
        exact h)
      go_wp2
      go_ret2
      exact ⟨_, by rw [HR.out]; rfl, by rw [HR.out]; exact hss, hL⟩
theorem order_any (l : List Sch) (s : Value) (w : World) (hs : LsAt w s l) : Calls Tryd.prog 13 #[s] w fun e w' => ∃ v, e = .returned (.tuple #[v, .int .i64 (ordS l).2]) ∧ Ss w' v (ordS l).1 ∧ Below w.heap.size w w' := by
  by_cases h : (allS l).2 = 0
  · obtain ⟨a, c, rfl, _⟩ := Nest.form hs
    exact order_go l a _ c w rfl hs h
  · have e1 : ordS l = ([], (allS l).2) := by unfold ordS; rw [if_neg h]
    rw [e1]
    refine (order_bad l s w hs h).mono ?_
    rintro e w' ⟨rfl, hb⟩
    exact ⟨_, rfl, ⟨Sl.mk0 .., Cap.mk (Nat.le_refl _)⟩, hb⟩
end Go.Proofs.YtokbipfkpojflaaDoor.Sc
