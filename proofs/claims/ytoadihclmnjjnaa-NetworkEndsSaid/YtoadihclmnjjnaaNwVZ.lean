/-
  Networks: Minimal (layer 46). Networks: intervals and scenarios; the laws' awake (layer 46). Networks: the walk of the laws' awake (layer 46). (Written by merge.py: NwV NwY NwZ.)
-/
import Derived.Test.YtoadihclmnjjnaaNwU
set_option linter.unusedSimpArgs false
set_option linter.unusedVariables false
set_option maxRecDepth 100000
namespace Go.Proofs.Ytoadihclmnjjnaa.Nw
open Go Go.RowKit Go.ChangeShapes Go.WideShapes Go.Proofs.Ytoadihclmnjjnaa.Sl Go.Proofs.Ytoadihclmnjjnaa.Al Go.Lib

/-- What is left without k. -/
def wo (K : List Nat) (k : Nat) : List Nat := K.filter fun x => !decide (x = k)
theorem wo_mem {K : List Nat} {k x : Nat} : x ∈ wo K k ↔ x ∈ K ∧ x ≠ k := by simp [wo]
theorem wo_split {A B : List Nat} {k : Nat} (h : (A ++ k :: B).Pairwise (· < ·)) : wo (A ++ k :: B) k = A ++ B := by
  obtain ⟨h1, h2, h3⟩ := List.pairwise_append.1 h
  obtain ⟨h4, _⟩ := List.pairwise_cons.1 h2
  have e1 : A.filter (fun x => !decide (x = k)) = A := List.filter_eq_self.2 fun x hx => by
    have := h3 x hx k (by simp)
    simp; omega
  have e2 : B.filter (fun x => !decide (x = k)) = B := List.filter_eq_self.2 fun x hx => by
    have := h4 x hx
    simp; omega
  unfold wo
  rw [List.filter_append, List.filter_cons_of_neg (by simp), e1, e2]
/-- What Minimal's loop keeps. -/
structure MnI (n : Nat) (l : List Rl) (k : Nat) (K : List Nat) : Prop where
  inc : K.Pairwise (· < ·)
  lt : ∀ x ∈ K, x < l.length
  rest : ∀ x, k ≤ x → x < l.length → x ∈ K
  no : ¬ SatL n (selL l K)
  need : ∀ x ∈ K, x < k → SatL n (selL l (wo K x))
theorem MnI.start {n : Nat} {l : List Rl} (h : ¬ SatL n l) : MnI n l 0 (List.range l.length) :=
  ⟨List.pairwise_lt_range, fun x hx => List.mem_range.1 hx, fun x _ hx => List.mem_range.2 hx, by rw [selL_all]; exact h, fun x _ h => by omega⟩
theorem MnI.keep {n : Nat} {l : List Rl} {k : Nat} {K : List Nat} (h : MnI n l k K) (hs : SatL n (selL l (wo K k))) : MnI n l (k + 1) K :=
  ⟨h.inc, h.lt, fun x hx => h.rest x (by omega), h.no, fun x hx hk => by
    by_cases e : x = k
    · subst e; exact hs
    · exact h.need x hx (by omega)⟩
theorem MnI.drop {n : Nat} {l : List Rl} {k : Nat} {K : List Nat} (h : MnI n l k K) (hs : ¬ SatL n (selL l (wo K k))) : MnI n l (k + 1) (wo K k) :=
  ⟨h.inc.filter _, fun x hx => h.lt x (wo_mem.1 hx).1, fun x hx hl => wo_mem.2 ⟨h.rest x (by omega) hl, by omega⟩, hs, fun x hx hk => by
    obtain ⟨h1, h2⟩ := wo_mem.1 hx
    exact (h.need x h1 (by omega)).mono (selL_mono fun y hy => by
      obtain ⟨h3, h4⟩ := wo_mem.1 hy
      exact wo_mem.2 ⟨(wo_mem.1 h3).1, h4⟩)⟩
theorem range_take (m q : Nat) (h : q < m) : (List.range m).take (q + 1) = (List.range m).take q ++ [q] := by
  rw [List.take_range, List.take_range, Nat.min_eq_left (by omega), Nat.min_eq_left (by omega), List.range_succ]
theorem inc_len : ∀ (K : List Nat) (a m : Nat), K.Pairwise (· < ·) → (∀ x ∈ K, a ≤ x ∧ x < m) → K.length + a ≤ m ∨ K = []
  | [], _, _, _, _ => .inr rfl
  | x :: K, a, m, h, hb => by
    obtain ⟨h1, h2⟩ := List.pairwise_cons.1 h
    have hx := hb x (by simp)
    left
    rcases inc_len K (x + 1) m h2 (fun y hy => ⟨h1 y hy, (hb y (by simp [hy])).2⟩) with h3 | rfl
    · rw [List.length_cons]; omega
    · simp; omega
theorem MnI.len {n : Nat} {l : List Rl} {k : Nat} {K : List Nat} (h : MnI n l k K) : K.length ≤ l.length := by
  rcases inc_len K 0 l.length h.inc (fun x hx => ⟨Nat.zero_le _, h.lt x hx⟩) with h1 | rfl
  · omega
  · simp
/-- The slice v is the call's own and holds these places. -/
def Kf (W0 w : World) (v : Value) (ks : List Nat) : Prop := w.ownsRow W0.heap.size 3 1 v ks.length (ks.map fun k => Value.int .i64 ((k : Nat) : Int)) ∧ Below W0.heap.size W0 w
theorem Kf.nil (w : World) : Kf w w (.slice none 0 0) [] := ⟨World.ownsRow_nil _ _ _ _, Below.refl _ _⟩
theorem Kf.is {W0 w : World} {v : Value} {ks : List Nat} (h : Kf W0 w v ks) : Is w v ks := Sl.of_owns h.1
theorem Kf.step {w W W' : World} {v : Value} {ks : List Nat} (h : Kf w W v ks) (hb : Below W.heap.size W W') : Kf w W' v ks := by
  refine ⟨?_, bstep h.2 hb⟩
  obtain ⟨h1, h2 | ⟨g, cap, cur, q1, q2, q3, q4⟩⟩ := h.1
  · exact ⟨h1, .inl h2⟩
  · exact ⟨h1, .inr ⟨g, cap, cur, q1, q2, (hb.block g (Array.getElem?_eq_some_iff.1 q3).1).trans q3, q4⟩⟩
theorem wp_place {ops : Array Oper} {rest : List Oper} {o : Oper} {a : Act} {Q : Exit → Act → World → Prop} {W0 w : World} {v : Value} {ks : List Nat} (hB : Kf W0 w v ks) (hgd : o.guard = none) (s x : Operand)
    (ho : o.op = .call { callee := .builtin .append, args := #[s, x], argTypes := #[25, 25] }) (hs : a.eval s = v) {H : Nat} (te : TypeId)
    (hx : a.eval x = .slice (some ⟨H, 0, none⟩) 1 1) (hH : w.heap.size = H) (u : Nat) (hlen : ks.length ≤ 1000000)
    (h : ∀ v' w', Kf W0 w' v' (ks ++ [u]) → wpList Try.prog ops Q rest (a.put o.dst v') w') : wpList Try.prog ops Q (o :: rest) a (w.alloc (.cells #[.int .i64 (u : Int)] te)) := by
  obtain ⟨i0, hi, hz0, hz1, hz2⟩ := info_parts infoI
  refine wpList_app1 hB.2 hgd s x _ ho _ Try.underlying25 hi hz0 hz1 hz2 rfl (by decide) v ks.length _ hs [.int .i64 (u : Int)] te hB.1 hx hH rfl (by intro x hx; simp at hx; subst hx; rfl) (by unfold maxLen; omega) (by omega) ?_
  intro g cap w' h2 h3
  refine h _ w' ⟨?_, h3⟩
  rw [List.map_append, List.length_append]
  exact h2
theorem Is.keep {w w' : World} {C : Nat} {s : Value} {ks : List Nat} (h : Is w s ks) (hC : Memo w C) (hd : Md (fun k => k = C) w w') : Is w' s ks := by
  obtain ⟨h1, ad, cap, rfl, h2⟩ := h
  refine ⟨h1, ad, cap, rfl, fun hn => ?_⟩
  obtain ⟨g, off, rfl, h3⟩ := h2 hn
  refine ⟨g, off, rfl, fun j u hu => ?_⟩
  have := h3 j u hu
  exact hd.kept this (hC.neCell this)
theorem places_getD (ks : List Nat) (j : Nat) (hj : j < ks.length) : (ks.map fun k => ((k : Nat) : Int)).getD j 0 = ((ks[j] : Nat) : Int) := by
  rw [List.getD_eq_getElem?_getD, List.getElem?_map, List.getElem?_eq_getElem hj]; rfl
theorem idx_from : ∀ (A B : List Nat) (k : Nat) (i : Nat), (∀ x ∈ A, x ≠ k) → Lib.idxFrom ((A ++ k :: B).map fun k => ((k : Nat) : Int)) (k : Int) i = ((i + A.length : Nat) : Int)
  | [], B, k, i, _ => by simp [Lib.idxFrom]
  | a :: A, B, k, i, h => by
    have ha := h a (by simp)
    have := idx_from A B k (i + 1) (fun x hx => h x (by simp [hx]))
    rw [List.cons_append, List.map_cons, Lib.idxFrom, if_neg (by omega), this, List.length_cons]
    congr 1
    omega
theorem index_places (A B : List Nat) (k m : Nat) (ad : Option Addr) (c : Nat) (w : World) (hm : m = (A ++ k :: B).length) (hl : m ≤ 200) (hs : Is w (.slice ad m c) (A ++ k :: B)) (hA : ∀ x ∈ A, x ≠ k) :
    Calls Try.prog 53 #[.slice ad m c, .int .i64 (k : Int)] w fun e w' => e = .returned (.int .i64 (A.length : Int)) ∧ w = w' := by
  subst hm
  obtain ⟨g, off, cp, e1, hc⟩ := hs.open (by simp)
  cases e1
  have := Try.slices_Index_int g off (A ++ k :: B).length c ((A ++ k :: B).map fun k => ((k : Nat) : Int)) (k : Int) w (by simp) (by omega) (fun j hj => by
    rw [List.length_map] at hj
    rw [places_getD _ _ hj]
    exact is_get hc (List.getElem?_eq_getElem hj))
  rw [List.take_of_length_le (by simp), Lib.idxOf, idx_from A B k 0 hA, Nat.zero_add] at this
  exact this.mono fun _ _ h => ⟨h.1, h.2.symm⟩
/-- A row that can be written. -/
def Wr (w : World) (g cap : Nat) (ks : List Nat) : Prop := (∀ j k, ks[j]? = some k → w.cell? ⟨g, j, none⟩ = some (.int .i64 ((k : Nat) : Int))) ∧ (∀ j, w.frozen? ⟨g, j, none⟩ = false) ∧ ks.length ≤ cap ∧ cap ≤ 9223372036854775807
theorem clone_places (ks : List Nat) (m : Nat) (ad : Option Addr) (c : Nat) (w : World) (hm : m = ks.length) (h0 : 0 < m) (hl : m ≤ 200) (hs : Is w (.slice ad m c) ks) :
    Calls Try.prog 55 #[.slice ad m c] w fun e w' => ∃ g cap, e = .returned (.slice (some ⟨g, 0, none⟩) m cap) ∧ w.heap.size ≤ g ∧ Wr w' g cap ks ∧ Below w.heap.size w w' := by
  subst hm
  obtain ⟨g, off, cp, e1, hc⟩ := hs.open (by omega)
  cases e1
  refine (Try.slices_Clone_int g off ks.length c (ks.map fun k => ((k : Nat) : Int)) w (by simp) (by omega) (fun j hj => by
    rw [List.length_map] at hj
    rw [places_getD _ _ hj]
    exact is_get hc (List.getElem?_eq_getElem hj))).mono ?_
  rintro e w' ⟨v, rfl, ho, _, hb⟩
  rw [List.take_of_length_le (by simp)] at ho
  obtain ⟨h1, ⟨_, h2⟩ | ⟨q, cap, cur, rfl, hq, hh, hcap, hmx, hsz, ht⟩⟩ := ho
  · omega
  · refine ⟨q, cap, rfl, hq, ⟨fun j k hk => ?_, fun j => by simp [World.frozen?, hh], hcap, hmx⟩, hb⟩
    have hj := (List.getElem?_eq_some_iff.1 hk).1
    rw [cell_of_row _ _ j _ _ _ hh]
    have h3 : (cur.toList.take (ks.length * 1))[j]? = some (.int .i64 ((k : Nat) : Int)) := by
      rw [ht, List.getElem?_map, List.getElem?_map, hk]; rfl
    rw [Nat.mul_one, List.getElem?_take, if_pos hj, Array.getElem?_toList] at h3
    exact h3
theorem Md.drewN {S : Nat → Prop} {a w : World} (h : Md S a w) (q : Nat) : Md S a (w.drewN q) := ⟨h.os, h.tape, h.output, h.size, h.block⟩
theorem delete_places (A B : List Nat) (k m g cap : Nat) (w : World) (hm : m = (A ++ k :: B).length) (hl : m ≤ 200) (hs : Wr w g cap (A ++ k :: B)) :
    Calls Try.prog 54 #[.slice (some ⟨g, 0, none⟩) m cap, .int .i64 (A.length : Int), .int .i64 ((A.length : Int) + 1)] w fun e w' => e = .returned (.slice (some ⟨g, 0, none⟩) (m - 1) cap) ∧ Is w' (.slice (some ⟨g, 0, none⟩) (m - 1) cap) (A ++ B) ∧ Md (fun k => k = g) w w' := by
  subst hm
  obtain ⟨h1, h2, h3, h4⟩ := hs
  have hlen : (A ++ k :: B).length = A.length + 1 + B.length := by simp <;> omega
  have := Try.slices_Delete_int_cells g 0 (A ++ k :: B).length cap A.length (A.length + 1) ((A ++ k :: B).map fun k => ((k : Nat) : Int)) w (by simp) h3 h4 (by omega) (by omega) (fun j hj => by
    rw [List.length_map] at hj
    rw [places_getD _ _ hj, Nat.zero_add]
    exact h1 j _ (List.getElem?_eq_getElem hj)) (fun j _ => by rw [Nat.zero_add]; exact h2 j)
  rw [show (A.length + 1 : Nat) - A.length = 1 by omega] at this
  refine (show Calls _ _ _ _ _ from this).mono ?_
  rintro e w' ⟨rfl, q, rfl⟩
  have e1 : (((A ++ k :: B).map fun k => ((k : Nat) : Int)).take (A ++ k :: B).length) = (A ++ k :: B).map fun k => ((k : Nat) : Int) := List.take_of_length_le (by simp)
  have e2 : ((A ++ k :: B).map fun k => ((k : Nat) : Int)).take A.length = A.map fun k => ((k : Nat) : Int) := by
    rw [← List.map_take, List.take_left' rfl]
  have e3 : ((A ++ k :: B).map fun k => ((k : Nat) : Int)).drop (A.length + 1) = B.map fun k => ((k : Nat) : Int) := by
    rw [← List.map_drop, show A ++ k :: B = (A ++ [k]) ++ B by simp, List.drop_left' (by simp)]
  rw [e1, e2, e3]
  refine ⟨rfl, ?_, (Md.cells (S := fun k => k = g) rfl _ 0 _ _ ((Md.refl _ _).drewN q))⟩
  have hAB : (A ++ B).length = (A ++ k :: B).length - 1 := by simp <;> omega
  refine ⟨by simp, some ⟨g, 0, none⟩, cap, by rw [hAB], fun _ => ⟨g, 0, rfl, fun j u hu => ?_⟩⟩
  have hj : j < (A ++ B).length := by simpa using (List.getElem?_eq_some_iff.1 hu).1
  have hin := World.cell?_setCells_in g ((A.map (fun k => ((k : Nat) : Int)) ++ B.map (fun k => ((k : Nat) : Int)) ++ List.replicate 1 0).map (Value.int .i64)) 0 (w.drewN q) (fun j hj => by
    have hj' : j < (A ++ k :: B).length := by simp at hj ⊢; omega
    rw [Nat.zero_add]
    show (w.cell? ⟨g, j, none⟩).isSome = true
    rw [h1 j _ (List.getElem?_eq_getElem hj')]; rfl) j (by simp at hj ⊢; omega)
  rw [hin]
  rw [← hu, ← List.getElem?_eq_getElem]
  rw [List.map_append, List.getElem?_append_left (by simpa using hj), ← List.map_append, List.map_map]
  rfl
/-- What Minimal returns for a valid network. -/
def MiE (n : Nat) (l : List Rl) (w : World) (e : Ending) (w' : World) : Prop := Below w.heap.size w w' ∧ ((SatL n l ∧ e = .returned (.tuple #[.slice none 0 0, .int .i64 6])) ∨ (∃ v K, e = .returned (.tuple #[v, .int .i64 0]) ∧ Is w' v K ∧ MnI n l l.length K))
theorem minimal_bad (n : Int) (l : List Rl) (s : Value) (w : World) (hs : Rs w s l) (hv : vldN n l = false) :
    Calls Try.prog 14 #[.int .i64 n, s] w fun e w' => e = .returned (.tuple #[.slice none 0 0, .int .i64 1]) ∧ Below w.heap.size w w' := by
  have HV := fun W (h : Below w.heap.size w W) => nvalid_any n l s W (hs.below h)
  rw [hv] at HV
  clear hv
  obtain ⟨ad, cap, rfl⟩ := hs.form
  clear hs
  go_enter Try.func14, Try.ntmps14
  go_wp2_with (go_at_call 19; (with_reducible refine (HV _ (by go_grown)).mono ?_); rintro e w1 ⟨rfl, hb1⟩; have hL1 := hb1)
  go_ret2
  exact ⟨rfl, by have hs := hL1.size; have := bstep (w := w) (by go_grown) hL1; exact this⟩
set_option maxHeartbeats 8000000 in
theorem minimal_ok (n : Nat) (l : List Rl) (s : Value) (w : World) (hs : Rs w s l) (hv : vldN (n : Int) l = true) :
    Calls Try.prog 14 #[.int .i64 (n : Int), s] w (MiE n l w) := by
  obtain ⟨k0, hk0, h1, h2, h3, h4⟩ := vld_ok hv
  obtain rfl : n = k0 := by omega
  have hmm := @run_makeMap Try.prog
  have HV := fun W (h : Below w.heap.size w W) => nvalid_any (n : Int) l s W (hs.below h)
  rw [hv] at HV
  have HS := Lib.hid hs
  have HOK := Lib.hid h4
  obtain ⟨ad, cap, rfl⟩ := hs.form
  obtain ⟨m, hm⟩ : ∃ m, m = l.length := ⟨_, rfl⟩
  have HM := Lib.hid hm
  rw [← hm] at h3 HV ⊢
  clear hs hv h4 hk0 hm
  go_enter Try.func14, Try.ntmps14
  go_upto_region 6 with (go_at_call 19; (with_reducible refine (HV _ (by go_grown)).mono ?_); rintro e w1 ⟨rfl, hb1⟩; have hL1 := hb1; have hc1 := bcell hL1)
  have hb2 : Below w.heap.size w w1 := bstep (by go_grown) hL1
  have x1 : w1.cell? ⟨w.heap.size + 1, 0, none⟩ = some (.slice ad m cap) := Go.Proofs.Ytoadihclmnjjnaa.Sl.cell_kept (by simp) hL1
  have x3 : w1.cell? ⟨w.heap.size, 0, none⟩ = some (.int .i64 (n : Int)) := Go.Proofs.Ytoadihclmnjjnaa.Sl.cell_kept (by simp) hL1
  obtain ⟨W0, hW0⟩ : ∃ W0, (w1.alloc (.map #[] 0)).alloc (.cells #[.map (some w1.heap.size)] 80) = W0 := ⟨_, rfl⟩
  have hb3 : Below w1.heap.size w1 W0 := by rw [← hW0]; exact ((Below.refl _ _).alloc (Nat.le_refl _) _).alloc (by simp) _
  have hmo : Memo W0 w1.heap.size := by rw [← hW0]; exact (Memo.made w1).keep (S := fun _ => False) (Md.of_below ((Below.refl _ _).alloc (Nat.le_refl _) _)) (fun h => h)
  have x2 : W0.cell? ⟨w1.heap.size + 1, 0, none⟩ = some (.map (some w1.heap.size)) := by rw [← hW0]; simp
  have x1 := Go.Proofs.Ytoadihclmnjjnaa.Sl.cell_kept x1 hb3
  have x3 := Go.Proofs.Ytoadihclmnjjnaa.Sl.cell_kept x3 hb3
  have hbW := bstep hb2 hb3
  have hCw : w.heap.size ≤ w1.heap.size := hb2.size
  rw [hW0]
  generalize w1.heap.size = C at *
  clear hW0 hb1 hL1 hc1 hb2 hb3 hmm HV
  have HX1 := Lib.hid x1
  have HX2 := Lib.hid x2
  have HX3 := Lib.hid x3
  have HSW := Lib.hid (HS.out.below hbW)
  have HMI := fun (v : Value) (ks : List Nat) (W : World) (hd : Md (fun k => k = C) W0 W) (hC : Memo W C) (hk : ks.length ≤ 200) (hi : Is W v ks) (hlt : ∀ x ∈ ks, x < l.length) => min1_any n C (w.heap.size + 1) (C + 1) w.heap.size l (.slice ad m cap) v ks W h1 h2 (by
    refine ⟨?_, HSW.out.2⟩
    obtain ⟨q1, q2, q3, q4, q5⟩ := HSW.out.1
    refine ⟨q1, q2, q3, by rw [HM.out]; exact q4, fun hn => ?_⟩
    obtain ⟨g, off, rfl, hc⟩ := q5 hn
    exact ⟨g, off, rfl, fun j u hu => hd.kept (hc j u hu) (hmo.neCell (hc j u hu))⟩) (by rw [← HM.out]; exact h3) HOK.out hi hk hlt hC (hd.kept x1 (hmo.neCell x1)) (hd.kept x2 (hmo.neCell x2)) (hd.kept x3 (hmo.neCell x3))
  have HMO := Lib.hid hmo
  clear hmo x1 x2 x3
  have m0 : (m : Int) ≤ 200 := by omega
  have y1 := HX1.out
  go_wp2
  go_loopw [8, 21] (fun v iv wr => ∃ q, q ≤ m ∧ iv = .int .i64 (q : Int) ∧ Kf W0 wr v ((List.range m).take q)) (fun _ iv _ => m - (RowKit.intOf iv).toNat)
  case atStart => exact ⟨0, Nat.zero_le _, rfl, Kf.nil W0⟩
  case round =>
    obtain ⟨q, hq, rfl, hK⟩ := hrel
    by_cases hqm : q < m
    · have q0 : (0 : Int) ≤ (q : Int) := by omega
      have q1 : (q : Int) < (m : Int) := by omega
      have hlen : ((List.range m).take q).length ≤ 1000000 := by simp; omega
      have HRT := Lib.hid (range_take m q hqm)
      go_wp2_with (at_builtin; refine wp_place hK rfl (.tmp 24) (.tmp 26) rfl rfl 3 rfl (by simp) q hlen ?_; intro v1 w2 hK1)
      go_roundw
      case rel => exact ⟨q + 1, by omega, by go_num, by rw [HRT.out]; exact hK1⟩
      case measure => simp [RowKit.intOf]; omega
    · have hqe : q = m := by omega
      rw [hqe, List.take_of_length_le (by simp)] at hK
      have hKI := hK.is
      obtain ⟨ad2, cap2, rfl⟩ := hKI.form
      have hmo := HMO.out.keep (S := fun k => False) (Md.of_below hK.2) (fun h => h)
      have HM1 := HMI _ (List.range m) wr (Md.of_below hK.2) hmo (by simp; exact h3) hKI (fun x hx => by rw [← HM.out]; exact List.mem_range.1 hx)
      have HALL := Lib.hid (show selL l (List.range m) = l by rw [HM.out]; exact selL_all l)
      have HKI := Lib.hid hKI
      have HDK0 := Lib.hid hK.2
      have HDK := Lib.hid (Md.of_below (S := fun k => k = C) hK.2)
      have y2 := Go.Proofs.Ytoadihclmnjjnaa.Sl.cell_kept HX1.out hK.2
      have HMI2 := Lib.hid HMI
      rw [List.length_range] at HM1 ⊢
      clear hK hKI hmo HMI y1 hq hqe
      go_wp2_with (go_at_call 50; (with_reducible refine HM1.mono ?_); rintro e w3 ⟨b, rfl, hb, hC3, hd3⟩; have y3 := (HDK.out.trans hd3).kept HX1.out (HMO.out.neCell HX1.out); have HB := Lib.hid hb; clear hb; cases b)
      · have hno : ¬ SatL n l := fun h => by
          have := HB.out
          rw [HALL.out] at this
          simp [h] at this
        have hmi := MnI.start hno
        rw [← HM.out] at hmi
        have HMI3 := Lib.hid hmi
        have HK3 := Lib.hid (HKI.out.keep (HMO.out.keep (S := fun k => False) (Md.of_below (HDK0.out)) (fun h => h)) hd3)
        have HD3 := Lib.hid (HDK.out.trans hd3)
        have HC3 := Lib.hid hC3
        clear hmi hno HB hC3 hd3 y2 y3 HKI HDK HALL
        go_loopw [8, 34] (fun v iv wr => ∃ k K, k ≤ m ∧ iv = .int .i64 (k : Int) ∧ Is wr v K ∧ MnI n l k K ∧ Memo wr C ∧ Md (fun k => k = C) W0 wr) (fun _ iv _ => m - (RowKit.intOf iv).toNat)
        case atStart => exact ⟨0, List.range m, Nat.zero_le _, rfl, (by have := HK3.out; rw [List.length_range] at this; exact this), HMI3.out, HC3.out, HD3.out⟩
        case round =>
          obtain ⟨k, K, hk, rfl, hI, hN, hC4, hD4⟩ := hrel
          by_cases hkm : k < m
          · obtain ⟨A, B, hsp⟩ := List.append_of_mem (hN.rest k (Nat.le_refl _) (by rw [← HM.out]; exact hkm))
            subst hsp
            have hwo := wo_split hN.inc
            have hA : ∀ x ∈ A, x ≠ k := fun x hx => by
              have := (List.pairwise_append.1 hN.inc).2.2 x hx k (by simp)
              omega
            have hlen := hN.len
            rw [← HM.out] at hlen
            obtain ⟨p, hp⟩ : ∃ p, p = (A ++ k :: B).length := ⟨_, rfl⟩
            have hlen2 : (A ++ k :: B).length = A.length + B.length + 1 := by rw [List.length_append, List.length_cons]; omega
            have hp0 : 0 < p := by omega
            have hAl : A.length ≤ 200 := by omega
            have hABl : (A ++ B).length ≤ 200 := by rw [List.length_append]; omega
            obtain ⟨ad3, cap3, rfl⟩ := hI.form
            have hI2 := hI
            rw [← hp] at hI2 hlen ⊢
            have HIX := index_places A B k p ad3 cap3 wr hp (by omega) hI2 hA
            have HCL := clone_places (A ++ k :: B) p ad3 cap3 wr hp hp0 (by omega) hI2
            have HDE := fun g cp W h => delete_places A B k p g cp W hp (by omega) h
            have HI := Lib.hid hI2
            have HN := Lib.hid hN
            have HWO := Lib.hid hwo
            have HC4 := Lib.hid hC4
            have HD4 := Lib.hid hD4
            have hltAB : ∀ x ∈ A ++ B, x < l.length := fun x hx => hN.lt x (by rw [← hwo] at hx; exact (wo_mem.1 hx).1)
            have HLT := Lib.hid hltAB
            have y5 := hD4.kept HX1.out (HMO.out.neCell HX1.out)
            have k1 : (k : Int) < (m : Int) := by omega
            have k2 : (0 : Int) ≤ (k : Int) := by omega
            have a1 : (A.length : Int) ≤ 200 := by omega
            clear hI hI2 hN hwo hA hp hC4 hD4 hltAB
            go_wp2_with (first | (go_at_call 53; (with_reducible refine HIX.mono ?_); rintro e w5 ⟨rfl, rfl⟩) | (go_at_call 55; (with_reducible refine HCL.mono ?_); rintro e w5 ⟨g, cp, rfl, hg, hw, hb5⟩) | (go_at_call 54; (with_reducible refine (HDE g cp _ hw).mono ?_); rintro e w6 ⟨rfl, hi6, hd6⟩))
            have hdW6 : Md (fun k => k = C) wr w6 := (((Md.of_below (S := fun k => k = C ∨ wr.heap.size ≤ k) hb5).trans (hd6.mono (fun k _ h => Or.inr (by rw [h]; exact hg)))).mono (fun k hk h => by omega))
            have hC6 : Memo w6 C := (HC4.out.keep (S := fun _ => False) (Md.of_below hb5) (fun h => h)).keep hd6 (fun e => by have := HC4.out.lt; omega)
            have HM6 := HMI2.out _ (A ++ B) w6 (HD4.out.trans hdW6) hC6 hABl hi6 HLT.out
            have HI6 := Lib.hid hi6
            have HC6 := Lib.hid hC6
            have HDW := Lib.hid hdW6
            clear hi6 hC6 hdW6 hd6 hb5 hw HIX HCL HDE
            go_wp2_with (go_at_call 50; (with_reducible refine HM6.mono ?_); rintro e w7 ⟨b, rfl, hb, hC7, hd7⟩; have y7 := (HD4.out.trans (HDW.out.trans hd7)).kept HX1.out (HMO.out.neCell HX1.out); have HB := Lib.hid hb; clear hb; cases b)
            · have hno : ¬ SatL n (selL l (wo (A ++ k :: B) k)) := fun h => by
                rw [HWO.out] at h
                have := HB.out
                simp [h] at this
              have hN2 := HN.out.drop hno
              rw [HWO.out] at hN2
              have HN2 := Lib.hid hN2
              clear hno hN2 HB
              go_roundw
              case rel => exact ⟨k + 1, A ++ B, by omega, by go_num, HI6.out.keep HC6.out hd7, HN2.out, hC7, HD4.out.trans (HDW.out.trans hd7)⟩
              case measure => simp [RowKit.intOf]; omega
            · have hyes : SatL n (selL l (wo (A ++ k :: B) k)) := by
                rw [HWO.out]
                have := HB.out
                simpa using this
              have HN2 := Lib.hid (HN.out.keep hyes)
              clear hyes HB
              go_roundw
              case rel => exact ⟨k + 1, A ++ k :: B, by omega, by go_num, HI.out.keep HC4.out (HDW.out.trans hd7), HN2.out, hC7, HD4.out.trans (HDW.out.trans hd7)⟩
              case measure => simp [RowKit.intOf]; omega
          · have hkm2 : k = l.length := by rw [← HM.out]; omega
            go_wp2_with (fail)
            go_ret2
            refine ⟨?_, Or.inr ⟨_, K, rfl, hI, hkm2 ▸ hN⟩⟩
            exact hD4.below' hbW (by rintro b rfl; exact hCw) hbW.size
      · go_ret2
        have hyes : SatL n l := by
          have := HB.out
          rw [HALL.out] at this
          simpa using this
        exact ⟨(HDK.out.trans hd3).below' hbW (by rintro b rfl; exact hCw) hbW.size, Or.inl ⟨hyes, rfl⟩⟩
end Go.Proofs.Ytoadihclmnjjnaa.Nw

set_option maxRecDepth 100000
namespace Go.Proofs.Ytoadihclmnjjnaa.Nw
open Go Go.RowKit Go.ChangeShapes Go.WideShapes Go.Proofs.Ytoadihclmnjjnaa.Sl Go.Proofs.Ytoadihclmnjjnaa.Al Go.Proofs.Ytoadihclmnjjnaa.Iv Go.Lib

/-- The number of the relation between two intervals. -/
def ofP (x y : Int × Int) : Nat := (ofZ x.1 x.2 y.1 y.2).toNat
def okP (x : Int × Int) : Prop := validB x.1 x.2 = true
theorem three_of {x y z : Int × Int} (hx : okP x) (hy : okP y) (hz : okP z) : ∃ i j m, i < 15 ∧ j < 15 ∧ m < 15 ∧ ofP x y = rl i j ∧ ofP y z = rl j m ∧ ofP x z = rl i m ∧ ofP z x = rl m i := by
  obtain ⟨i, j, m, h1, h2, h3, e1, e2, e3, e4⟩ := three x.1 x.2 y.1 y.2 z.1 z.2 hx hy hz
  unfold ofP
  exact ⟨i, j, m, h1, h2, h3, by rw [e1]; rfl, by rw [e2]; rfl, by rw [e3]; rfl, by rw [e4]; rfl⟩
theorem ofP_lt {x y : Int × Int} (hx : okP x) (hy : okP y) : ofP x y < 13 := by
  obtain ⟨i, j, m, h1, h2, h3, e1, e2, e3, e4⟩ := three_of hx hy hy
  rw [e1]
  have := rl_lt i j h1 h2
  omega
theorem ofP_inv {x y : Int × Int} (hx : okP x) (hy : okP y) : ofP y x = 12 - ofP x y := by
  obtain ⟨i, j, m, h1, h2, h3, e1, e2, e3, e4⟩ := three_of hx hy hy
  rw [e3, e4]
  exact rl_inv i h1 m h3
theorem ofP_comp {x y z : Int × Int} (hx : okP x) (hy : okP y) (hz : okP z) : (cmp (2 ^ ofP x y) (2 ^ ofP y z)).testBit (ofP x z) = true := by
  obtain ⟨i, j, m, h1, h2, h3, e1, e2, e3, e4⟩ := three_of hx hy hz
  rw [e1, e2, e3]
  have l1 := rl_lt i j h1 h2
  have l2 := rl_lt j m h2 h3
  exact (cmp_bit _ _ _).2 ⟨rl i j, rl j m, by omega, by omega, Nat.testBit_two_pow_self, Nat.testBit_two_pow_self, bas_bit i j m h1 h2 h3⟩
/-- The relations of intervals. -/
def spM (a : Nat → Int × Int) : Mt := fun i j => 2 ^ ofP (a i) (a j)
theorem sub_pow {r x : Nat} : Sub (2 ^ r) x ↔ x.testBit r = true := by
  constructor
  · intro h; exact h r Nat.testBit_two_pow_self
  · intro h c hc
    have : c = r := by
      by_cases e : c = r
      · exact e
      · rw [Nat.testBit_two_pow_of_ne (Ne.symm e)] at hc; cases hc
    rw [this]; exact h
theorem sc_spans {n : Nat} {a : Nat → Int × Int} (ha : ∀ i, i < n → okP (a i)) : Sc n (spM a) := by
  refine ⟨fun i j hi hj => ⟨_, ofP_lt (ha i hi) (ha j hj), rfl⟩, fun i j k hi hj hk => sub_pow.2 (ofP_comp (ha i hi) (ha k hk) (ha j hj)), fun i j hi hj => ?_⟩
  unfold spM
  rw [inv_pow _ (ofP_lt (ha i hi) (ha j hj)), ofP_inv (ha i hi) (ha j hj)]
/-- Intervals that satisfy a network. -/
theorem sat_spans {n : Nat} {l : List Rl} {a : Nat → Int × Int} (ha : ∀ i, i < n → okP (a i)) (h : ∀ r ∈ l, r.s.toNat.testBit (ofP (a r.i.toNat) (a r.j.toNat)) = true) : SatL n l :=
  ⟨spM a, sc_spans ha, fun r hr => sub_pow.2 (h r hr)⟩

/-! ### the chapter's example -/
def r01 : Rl := ⟨0, 1, 1⟩
def r12 : Rl := ⟨1, 2, 1⟩
def r20 : Rl := ⟨2, 0, 1⟩
theorem cmp_11 : cmp 1 1 = 1 := by
  apply Nat.eq_of_testBit_eq
  intro c
  have h0 : bt 0 0 = 1 := by kernel_rfl
  have hone : ∀ p < 13, (1 : Nat).testBit p = true → p = 0 := of_decide_eq_true (by kernel_rfl)
  cases hc : (cmp 1 1).testBit c
  · cases h1 : (1 : Nat).testBit c
    · rfl
    · have : c = 0 := hone c (bit13 (by decide) h1) h1
      subst this
      have h5 := (cmp_bt 1 1 0).2 ⟨0, 0, by omega, by omega, by decide, by decide, by rw [h0]; decide⟩
      rw [h5] at hc
      cases hc
  · obtain ⟨p, q, hp, hq, h1, h2, h3⟩ := (cmp_bt 1 1 c).1 hc
    rw [hone p hp h1, hone q hq h2, h0] at h3
    exact h3.symm
def ln (x : Nat) : Int × Int := if x = 0 then (0, 1) else if x = 1 then (2, 3) else (4, 5)
theorem ln_ok (f : Nat → Nat) : ∀ i, okP (ln (f i)) := fun i => by
  unfold ln okP
  split
  · decide
  · split <;> decide
theorem ln_lt {x y : Nat} (h : x < y) (hy : y ≤ 2) : ofP (ln x) (ln y) = 0 := by
  have hall : ∀ y ≤ 2, ∀ x < y, ofP (ln x) (ln y) = 0 := by decide
  exact hall y hy x h
theorem aw_close {X : Mt} {ok : Bool} (h : ClR 3 (matN [r01, r12]) X ok) : ok = true ∧ X 0 2 = 1 := by
  have hok : ∀ r ∈ [r01, r12], OkR 3 r := by
    intro r hr
    simp at hr
    rcases hr with rfl | rfl
    · exact ⟨0, 1, 1, rfl, by omega, by omega, by omega⟩
    · exact ⟨1, 2, 1, rfl, by omega, by omega, by omega⟩
  have hsc : Sc 3 (spM ln) := sc_spans fun i _ => ln_ok id i
  have hle : LeM 3 (spM ln) (matN [r01, r12]) := (le_mat hsc _ mat0 hok).2 ⟨hsc.mat0, fun r hr => by
    simp at hr
    rcases hr with rfl | rfl
    · exact sub_pow.2 (by show (1 : Nat).testBit (ofP (ln 0) (ln 1)) = true; rw [ln_lt (by omega) (by omega)]; rfl)
    · exact sub_pow.2 (by show (1 : Nat).testBit (ofP (ln 1) (ln 2)) = true; rw [ln_lt (by omega) (by omega)]; rfl)⟩
  cases ok
  · exact ((show ∀ N, ClM 3 N → LeM 3 N _ → ¬ NzM 3 N from h) _ hsc.2.1 hle hsc.nz).elim
  · obtain ⟨h1, h2, h3⟩ := (show GI 3 (matN [r01, r12]) X ∧ ClM 3 X ∧ NzM 3 X from h)
    refine ⟨rfl, ?_⟩
    have e1 : Sub (X 0 1) 1 := (h1.1 0 1 (by omega) (by omega)).trans (((by
      have := stepB_sub (stepM mat0 r01) 1 2 1 0 1
      refine (stepM_sub (stepM mat0 r01) r12 0 1).trans ?_
      rw [show r01 = ⟨(0 : Nat), (1 : Nat), (1 : Nat)⟩ from rfl, stepM_ok, if_neg (by omega)]
      unfold stepB stepA setM Nw.mat0
      simp
      first | exact and_sub_right _ _ | exact Sub.refl _) : Sub (matN [r01, r12] 0 1) 1))
    have e2 : Sub (X 1 2) 1 := (h1.1 1 2 (by omega) (by omega)).trans (((by
      show Sub (stepM (stepM mat0 r01) r12 1 2) 1
      rw [show r12 = ⟨(1 : Nat), (2 : Nat), (1 : Nat)⟩ from rfl, stepM_ok, if_neg (by omega)]
      unfold stepB stepA setM
      simp
      first | exact and_sub_right _ _ | exact Sub.refl _) : Sub (matN [r01, r12] 1 2) 1))
    have e3 := (h2 0 2 1 (by omega) (by omega) (by omega)).trans (cmp_mono e1 e2)
    rw [cmp_11] at e3
    have e4 := h3 0 2 (by omega) (by omega)
    have := e3.le
    omega
theorem aw_no : ¬ SatL 3 [r01, r12, r20] := by
  rintro ⟨N, h1, h2⟩
  have e1 : Sub (N 0 1) 1 := h2 r01 (by simp)
  have e2 : Sub (N 1 2) 1 := h2 r12 (by simp)
  have e3 : Sub (N 2 0) 1 := h2 r20 (by simp)
  have e4 := (h1.2.1 0 2 1 (by omega) (by omega) (by omega)).trans (cmp_mono e1 e2)
  rw [cmp_11] at e4
  have e5 := h1.2.2 0 2 (by omega) (by omega)
  have e6 := h1.nz 0 2 (by omega) (by omega)
  have e7 : N 0 2 = 2 ^ 0 := by have := e4.le; rw [Nat.pow_zero]; omega
  rw [e7, inv_pow 0 (by omega)] at e5
  rw [e5] at e3
  have := e3.le
  omega
theorem aw_sub {f : Nat → Nat} {l : List Rl} (hf : ∀ i, f i ≤ 2) (h : ∀ r ∈ l, r.s = 1 ∧ f r.i.toNat < f r.j.toNat) : SatL 3 l :=
  sat_spans (a := fun i => ln (f i)) (fun i _ => ln_ok f i) (fun r hr => by
    obtain ⟨h1, h2⟩ := h r hr
    rw [h1, ln_lt h2 (hf _)]; rfl)
theorem aw_min {K : List Nat} (h : MnI 3 [r01, r12, r20] 3 K) : K = [0, 1, 2] := by
  have hlt : ∀ x ∈ K, x < 3 := h.lt
  have key : ∀ (x : Nat) (f : Nat → Nat), (∀ i, f i ≤ 2) → (∀ y, y < 3 → y ≠ x → ([r01, r12, r20].getD y default).s = 1 ∧ f ([r01, r12, r20].getD y default).i.toNat < f ([r01, r12, r20].getD y default).j.toNat) → x ∈ K := by
    intro x f hf hx
    rcases Classical.em (x ∈ K) with hm | hm
    · exact hm
    · refine (h.no (aw_sub hf fun r hr => ?_)).elim
      obtain ⟨y, hy, rfl⟩ := List.mem_map.1 hr
      exact hx y (hlt y hy) (fun e => hm (e ▸ hy))
  have h0 : 0 ∈ K := key 0 (fun i => if i = 1 then 0 else if i = 2 then 1 else 2) (by intro i; split <;> (try split) <;> omega) (by decide)
  have h1 : 1 ∈ K := key 1 (fun i => if i = 2 then 0 else if i = 0 then 1 else 2) (by intro i; split <;> (try split) <;> omega) (by decide)
  have h2 : 2 ∈ K := key 2 (fun i => i.min 2) (by intro i; exact Nat.min_le_right _ _) (by decide)
  have hinc := h.inc
  have hlen : K.length ≤ 3 := h.len
  match K, hinc, hlt, h0, h1, h2, hlen with
  | [], _, _, h0, _, _, _ => simp at h0
  | [a], _, _, h0, h1, _, _ => simp at h0 h1; omega
  | [a, b], _, _, h0, h1, h2, _ => simp at h0 h1 h2; omega
  | [a, b, c], hi, hl, h0, h1, h2, _ =>
    simp at hi hl h0 h1 h2
    obtain ⟨⟨i1, i2⟩, i3⟩ := hi
    have : a = 0 ∧ b = 1 ∧ c = 2 := by omega
    simp [this]
  | a :: b :: c :: d :: t, _, _, _, _, _, hl => simp at hl
end Go.Proofs.Ytoadihclmnjjnaa.Nw

set_option maxRecDepth 100000
namespace Go.Proofs.Ytoadihclmnjjnaa.Nw
open Go Go.RowKit Go.ChangeShapes Go.WideShapes Go.Proofs.Ytoadihclmnjjnaa.Sl Go.Proofs.Ytoadihclmnjjnaa.Al Go.Lib

theorem rel_any (i j : Int) (w : World) : Calls Try.prog 49 #[.int .i64 i, .int .i64 j, .int .i64 0] w fun e w' => e = .returned (.agg #[.int .i64 i, .int .i64 j, .int .i64 1]) ∧ Below w.heap.size w w' := by
  go_enter Try.func49, Try.ntmps49
  go_wp2
  refine bodyPost_ret (by simp [results, Try.results49, go_sem]; try rfl) rfl ?_
  exact ⟨rfl, by go_grown⟩
theorem rf_two {w W : World} {g : Nat} (hb : Below w.heap.size w W) (hg : w.heap.size ≤ g) (hh : W.heap[g]? = some (.cells #[.int .i64 0, .int .i64 1, .int .i64 1, .int .i64 1, .int .i64 2, .int .i64 1] 30 (0, 0))) : Rf w W (.slice (some ⟨g, 0, none⟩) 2 2) [r01, r12] :=
  ⟨⟨rfl, .inr ⟨g, 2, _, rfl, hg, hh, Nat.le_refl _, by unfold maxLen; omega, rfl, rfl⟩⟩, hb⟩
theorem Rf.step {w W W' : World} {v : Value} {l : List Rl} (h : Rf w W v l) (hb : Below W.heap.size W W') : Rf w W' v l := by
  refine ⟨?_, bstep h.2 hb⟩
  obtain ⟨h1, h2 | ⟨g, cap, cur, q1, q2, q3, q4⟩⟩ := h.1
  · exact ⟨h1, .inl h2⟩
  · exact ⟨h1, .inr ⟨g, cap, cur, q1, q2, (hb.block g (Array.getElem?_eq_some_iff.1 q3).1).trans q3, q4⟩⟩
theorem wp_rel2 {ops : Array Oper} {rest : List Oper} {o : Oper} {a : Act} {Q : Exit → Act → World → Prop} {W0 w : World} {gv n c : Nat} {l : List Rl} (hB : Rf W0 w (.slice (some ⟨gv, 0, none⟩) n c) l) (hn : n = l.length) (hgd : o.guard = none) (s x : Operand)
    (ho : o.op = .call { callee := .builtin .append, args := #[s, x], argTypes := #[22, 22] }) (hs : a.eval s = .slice (some ⟨gv, 0, none⟩) n c) {H : Nat} (te : TypeId)
    (hx : a.eval x = .slice (some ⟨H, 0, none⟩) 1 1) (hH : w.heap.size = H) (u : Rl) (hlen : l.length ≤ 1000000)
    (h : ∀ v' w', Rf W0 w' v' (l ++ [u]) → Md (fun k => k = gv) w w' → wpList Try.prog ops Q rest (a.put o.dst v') w') : wpList Try.prog ops Q (o :: rest) a (w.alloc (.cells #[.int .i64 u.i, .int .i64 u.j, .int .i64 u.s] te)) := by
  obtain ⟨i0, hi, hz0, hz1, hz2⟩ := info_parts infoR
  subst hH
  refine wpList_append_lies _ hgd s x _ ho W0.heap.size _ i0 _ 3 24 Try.underlying22 hi hz0 hz1 hz2 rfl (by decide) _ l.length (cellsR l) hs (hB.1.alloc _) ⟨w.heap.size, 0, none⟩ 1 1 [.int .i64 u.i, .int .i64 u.j, .int .i64 u.s] hx rfl (cells_new w [.int .i64 u.i, .int .i64 u.j, .int .i64 u.s] te) (by intro x hx; simp at hx; rcases hx with rfl | rfl | rfl <;> rfl) (by omega) (by unfold maxLen; omega) (by omega) (by have := hB.2.size; simp; omega) (w.heap.size + 1) (by simp) ?_
  intro g cap w' h2 h3 _ _
  refine h _ w' ⟨?_, grow_step (hB.2.alloc hB.2.size _) h3 (fun k hk => (World.ownsRow.lt (hB.1.alloc (.cells [.int .i64 u.i, .int .i64 u.j, .int .i64 u.s].toArray te)) k hk).1)⟩ ((Md.of_below ((Below.refl _ _).alloc (Nat.le_refl _) _)).trans (Md.of_grown h3))
  rw [cellsR_app, List.length_append]
  exact h2
theorem three_new (w : World) (t : TypeId) : ∀ j, j < 3 → (w.alloc (.cells #[.int .i64 0, .int .i64 1, .int .i64 2] t)).cell? ⟨w.heap.size, 0 + j, none⟩ = some (.int .i64 (([0, 1, 2] : List Int).getD j 0)) := fun j hj => by
  rw [Nat.zero_add, cell_of_row _ _ j _ _ _ (heap_alloc_new w _)]
  rcases (show j = 0 ∨ j = 1 ∨ j = 2 by omega) with rfl | rfl | rfl <;> rfl
theorem vld3 : vldN 3 [r01, r12] = true := by decide
theorem vld33 : vldN 3 [r01, r12, r20] = true := by decide
set_option maxHeartbeats 8000000 in
theorem awake_any (w : World) : Calls Try.prog 12 #[] w fun e w' => e = .returned (.bool true) ∧ Below w.heap.size w w' := by
  have HCL : ∀ (s : Value) (W : World), Rs W s [r01, r12] → Calls Try.prog 18 #[.int .i64 3, s] W (CoE 3 [r01, r12] W) := fun s W h => close_ok 3 _ s W h vld3
  have HMI : ∀ (s : Value) (W : World), Rs W s [r01, r12, r20] → Calls Try.prog 14 #[.int .i64 3, s] W (MiE 3 [r01, r12, r20] W) := fun s W h => minimal_ok 3 _ s W h vld33
  go_enter Try.func12, Try.ntmps12
  go_upto_region 2 with (go_at_call 49; (with_reducible refine (rel_any _ _ _).mono ?_); rintro e w1 ⟨rfl, hb1⟩; have hL1 := bstep (w := w) (by first | assumption | exact Below.refl _ _) hb1; clear hb1)
  have hRf := rf_two ((‹Below w.heap.size w w1›).alloc (‹Below w.heap.size w w1›).size (.cells #[.int .i64 0, .int .i64 1, .int .i64 1, .int .i64 1, .int .i64 2, .int .i64 1] 30)) (‹Below w.heap.size w w1›).size (heap_alloc_new w1 _)
  generalize w1.heap.size = g at *
  generalize w1.alloc (.cells #[.int .i64 0, .int .i64 1, .int .i64 1, .int .i64 1, .int .i64 2, .int .i64 1] 30) = W2 at *
  go_upto_region 4 with (first | (go_at_call 18; (with_reducible refine (HCL _ _ (hRf.rs (by decide))).mono ?_); rintro e w3 ⟨hb3, X, ok, hcl, hy, hn⟩; obtain ⟨rfl, hx⟩ := aw_close hcl; obtain ⟨B, R, rfl, hM, hBf, hRf2⟩ := hy rfl; have hR3 := hRf.step hb3; clear hcl hy hn) | (go_at_call 49; (with_reducible refine (rel_any _ _ _).mono ?_); rintro e w4 ⟨rfl, hb4⟩; have hR4 := hR3.step hb4) | (at_builtin; go_must (refine wp_rel2 hR4 rfl rfl (.tmp 15) (.tmp 17) rfl rfl 30 rfl (by simp) r20 (by decide) ?_); intro v1 w5 hR5 hd5) | (go_at_call 14; (with_reducible refine (HMI _ _ (hR5.rs (by decide))).mono ?_); rintro e w6 ⟨hb6, ⟨hsat, _⟩ | ⟨v, K, rfl, hI, hN⟩⟩; exact (aw_no hsat).elim; obtain rfl := aw_min hN))
  have hlg : g < W2.heap.size := by
    obtain ⟨_, ⟨h, _⟩ | ⟨q, _, cur, e, _, hh, _⟩⟩ := hRf.1
    · cases h
    · cases e; exact (Array.getElem?_eq_some_iff.1 hh).1
  have hM4 := hM.below hb4
  have hM5 := hM4.keep hd5 (fun e => by omega) (fun i hi e => by have := hRf2 i hi; omega)
  have hM6 := hM5.below hb6
  obtain ⟨c0, hc0, k0⟩ := hM6.cap (show 0 < 3 by omega)
  have k1 := hM6.cell (show 0 < 3 by omega) (show 2 < 3 by omega)
  rw [hx] at k1
  obtain ⟨ga, oa, ca, e1, hci⟩ := hI.open (by decide)
  cases e1
  have hEQ := fun W (h : Below w6.heap.size w6 W) (g2 : Nat) (hc2 : ∀ j, j < 3 → W.cell? ⟨g2, 0 + j, none⟩ = some (.int .i64 (([0, 1, 2] : List Int).getD j 0))) => Try.slices_Equal_int ga oa 3 ca g2 0 3 3 [0, 1, 2] [0, 1, 2] W (by decide) (by decide) (by omega) (by omega) (fun j hj => by
    have h3 : j < 3 := hj
    have := Go.Proofs.Ytoadihclmnjjnaa.Sl.cell_kept (is_get (ks := [0, 1, 2]) hci (List.getElem?_eq_getElem h3)) h
    rw [this]
    rcases (show j = 0 ∨ j = 1 ∨ j = 2 by omega) with rfl | rfl | rfl <;> rfl) hc2
  have hL6 := bstep hR5.2 hb6
  have HL6 := Lib.hid hL6
  clear hI hN hci hM hM4 hM5 hM6 hR3 hR4 hR5 hRf hb3 hb4 hb6 hd5 hL6
  go_wp2_with (go_at_call 25; (with_reducible refine (hEQ _ (by go_grown) _ (three_new _ _)).mono ?_); rintro e w7 ⟨rfl, q, rfl⟩)
  go_ret
  exact ⟨by first | rfl | simp, by have h9 := HL6.out.alloc HL6.out.size (.cells #[.int .i64 0, .int .i64 1, .int .i64 2] 3); exact bdrewN h9 q⟩
end Go.Proofs.Ytoadihclmnjjnaa.Nw
