/-
  The walk of Text (layer 34).
-/
import Derived.Test.YtokbipfkpojflaaDoorScO
set_option linter.unusedSimpArgs false
set_option linter.unusedVariables false
namespace Go.Proofs.YtokbipfkpojflaaDoor.Sc
open Go Go.RowKit Go.ChangeShapes Go.WideShapes Go.Proofs.YtokbipfkpojflaaDoor.Sl Go.Proofs.YtokbipfkpojflaaDoor.Va Go.Lib

/-- The word of a kind. -/
def kwB (k : Int) : ByteArray := if k = 1 then ⟨#[105, 110, 116]⟩ else if k = 2 then ⟨#[116, 101, 120, 116]⟩ else if k = 3 then ⟨#[98, 111, 111, 108]⟩ else ⟨#[105, 110, 115, 116, 97, 110, 116]⟩
def kwL : List ByteArray := [⟨#[105, 110, 116]⟩, ⟨#[116, 101, 120, 116]⟩, ⟨#[98, 111, 111, 108]⟩, ⟨#[105, 110, 115, 116, 97, 110, 116]⟩]
/-- The text of a column. -/
def colT (c : Cl) : ByteArray := c.1 ++ ⟨#[32]⟩ ++ kwB c.2
/-- Texts with commas. -/
def jnB (l : List ByteArray) : ByteArray := ⟨(Lib.join (l.map (·.data.toList)) [44, 32]).toArray⟩
def hdT (s : Sch) : ByteArray := (⟨#[116, 97, 98, 108, 101, 32]⟩ : ByteArray) ++ s.name ++ ⟨#[32, 40]⟩ ++ jnB (s.cols.map colT) ++ ⟨#[41, 32, 107, 101, 121, 32]⟩ ++ ⟨#[(48 + s.key).toNat.toUInt8]⟩
def frT (f : Fr) : ByteArray := (⟨#[32, 102, 111, 114, 101, 105, 103, 110, 32, 40]⟩ : ByteArray) ++ jnB f.cols ++ ⟨#[41, 32]⟩ ++ f.tab
/-- What Text returns. -/
def txtS (s : Sch) : ByteArray × Int := if vldS s = false then (⟨#[]⟩, 1) else (s.frn.foldl (fun o f => o ++ frT f) (hdT s), 0)
theorem nm_size {s : ByteArray} (h : nmB s = true) : s.size ≤ 30 := by
  unfold nmB at h
  have e := Lx.len_is s
  cases hd : s.data.toList with
  | nil => rw [hd] at e; simp at e; omega
  | cons c r =>
    rw [hd] at h e
    simp only [Lx.nameL, Bool.and_eq_true, decide_eq_true_eq] at h
    simp only [List.length_cons] at e
    have := h.1.1
    omega
theorem dist_nm : ∀ (l seen : List ByteArray), distL seen l = true → ∀ s ∈ l, nmB s = true
  | [], _, _, s, hs => by simp at hs
  | x :: l, seen, h, s, hs => by
    unfold distL at h
    simp only [Bool.and_eq_true] at h
    rcases List.mem_cons.1 hs with rfl | hs
    · exact h.1.1
    · exact dist_nm l _ h.2 s hs
theorem words_any (w : World) : Calls Tryd.prog 20 #[] w fun e w' => ∃ g, e = .returned (.slice (some ⟨g, 0, none⟩) 4 4) ∧ (∀ j u, kwL[j]? = some u → w'.cell? ⟨g, j, none⟩ = some (.string u)) ∧ Below w.heap.size w w' := by
  go_enter Tryd.func20, Tryd.ntmps20
  go_wp2
  go_ret
  refine ⟨_, rfl, fun j u hu => ?_, by go_grown⟩
  refine bx_at w _ _ j _ ?_
  match j with
  | 0 => simp only [kwL] at hu; simp at hu; subst hu; rfl
  | 1 => simp only [kwL] at hu; simp at hu; subst hu; rfl
  | 2 => simp only [kwL] at hu; simp at hu; subst hu; rfl
  | 3 => simp only [kwL] at hu; simp at hu; subst hu; rfl
  | j + 4 => simp [kwL] at hu
theorem kw_at (k : Nat) (h1 : 1 ≤ k) (h2 : k ≤ 4) : kwL[k - 1]? = some (kwB k) := by
  match k, h1, h2 with
  | 1, _, _ => rfl
  | 2, _, _ => rfl
  | 3, _, _ => rfl
  | 4, _, _ => rfl
theorem kw_size (k : Int) : (kwB k).size ≤ 7 := by
  unfold kwB
  split
  · decide
  split
  · decide
  split
  · decide
  · decide
/-- The length of texts with commas. -/
theorem join_len (l : List ByteArray) (m : Nat) (h : ∀ s ∈ l, s.size ≤ m) : (Lib.join (l.map (·.data.toList)) [44, 32]).length ≤ l.length * (m + 2) := by
  induction l with
  | nil => simp [Lib.join]
  | cons x l ih =>
    have hx : x.data.toList.length ≤ m := by
      have := h x (by simp)
      have := Lx.len_is x
      omega
    have hl := ih (fun s hs => h s (by simp [hs]))
    cases l with
    | nil => simp [Lib.join] at hx ⊢; omega
    | cons y l =>
      have e : Lib.join (x.data.toList :: y.data.toList :: l.map (·.data.toList)) [44, 32] = x.data.toList ++ ([44, 32] ++ Lib.join (y.data.toList :: l.map (·.data.toList)) [44, 32]) := by
        simp [Lib.join, List.intercalate, List.intersperse]
      rw [List.map_cons, List.map_cons, e]
      rw [List.map_cons] at hl
      simp only [List.length_append, List.length_cons, List.length_nil] at hl hx ⊢
      rw [Nat.succ_mul]
      omega
theorem join_any (l : List ByteArray) (s : Value) (w : World) (hl : l.length ≤ 1000) (hsz : ∀ x ∈ l, x.size ≤ 1000) (hs : Ss w s l) : Calls Tryd.prog 21 #[s, .string ⟨#[44, 32]⟩] w fun e w' => e = .returned (.string (jnB l)) ∧ Below w.heap.size w w' := by
  by_cases h0 : l.length = 0
  · obtain rfl := List.length_eq_zero_iff.1 h0
    obtain ⟨ad, cap, rfl, _⟩ := hs.form
    refine (Tryd.strings_Join_none ad cap _ w).mono ?_
    rintro e w' ⟨rfl, rfl⟩
    exact ⟨rfl, Below.refl _ _⟩
  · obtain ⟨g, off, cap, rfl, hc⟩ := hs.1.open h0
    have hcap := hs.2.le
    have hlen := join_len l 1000 hsz
    have hm : l.length * (1000 + 2) ≤ 1000 * 1002 := Nat.mul_le_mul hl (by omega)
    obtain ⟨x, hx⟩ : ∃ x, l[0]? = some x := ⟨_, List.getElem?_eq_getElem (by omega)⟩
    have hg := block_of_cell (ss_get hc hx)
    exact Tryd.strings_Join g off cap l ⟨#[44, 32]⟩ w (fun j y hy => ss_get hc hy) hg (by omega) hcap (by show (Lib.join _ [44, 32]).length ≤ _; omega)
theorem jn_size (l : List ByteArray) (m : Nat) (h : ∀ s ∈ l, s.size ≤ m) : (jnB l).size ≤ l.length * (m + 2) := by
  have := join_len l m h
  unfold jnB
  show (Array.size _) ≤ _
  simpa using this
theorem cat2 (S T : ByteArray) (h : S.size + T.size ≤ 1000000) (W : World) : (binOp .add 9 (.string S) (.string T)).run Tryd.prog W = .ok (.string (S ++ T)) W := by
  have := run_string_add_sum (P := Tryd.prog) (w := W) S T (by omega)
  simpa [binOp] using this
theorem vld_cols {s : Sch} (h : vldS s = true) : ∀ c ∈ s.cols, c.1.size ≤ 30 ∧ 1 ≤ c.2 ∧ c.2 ≤ 4 := by
  unfold vldS at h
  simp only [Bool.and_eq_true, decide_eq_true_eq, List.all_eq_true] at h
  intro c hc
  have h1 := dist_nm _ _ h.1.1.2 c.1 (List.mem_map_of_mem hc)
  exact ⟨nm_size h1, (h.1.2 c hc).1, (h.1.2 c hc).2⟩
theorem vld_fsz {s : Sch} (h : vldS s = true) {f : Fr} (hf : f ∈ s.frn) : f.tab.size ≤ 30 ∧ ∀ x ∈ f.cols, x.size ≤ 30 := by
  unfold vldS at h
  simp only [Bool.and_eq_true, decide_eq_true_eq, List.all_eq_true] at h
  have h1 := h.2 f hf
  unfold frB at h1
  simp only [Bool.and_eq_true, decide_eq_true_eq, List.all_eq_true] at h1
  exact ⟨nm_size h1.1.1.1.1, fun x hx => nm_size (dist_nm _ _ h1.1.2 x hx)⟩
theorem vld_nsz {s : Sch} (h : vldS s = true) : s.name.size ≤ 30 := by
  unfold vldS at h
  simp only [Bool.and_eq_true, decide_eq_true_eq, List.all_eq_true] at h
  exact nm_size h.1.1.1.1.1.1.1.1
theorem text_bad (s : Sch) (a1 a2 : Option Addr) (c1 c2 : Nat) (w : World) (hs : Cs w (.slice a1 s.cols.length c1) s.cols) (hf : FsAt w (.slice a2 s.frn.length c2) s.frn) (h : vldS s = false) :
    Calls Tryd.prog 7 #[agS s.name (.slice a1 s.cols.length c1) s.key (.slice a2 s.frn.length c2)] w fun e w' => e = .returned (.tuple #[.string ⟨#[]⟩, .int .i64 1]) ∧ Below w.heap.size w w' := by
  have HV := fun W (hb : Below w.heap.size w W) => valid_any s a1 a2 c1 c2 W (hs.below hb) (hf.below (fun r x hx => hx.below hb) hb)
  rw [h] at HV
  generalize s.cols.length = m1 at *
  generalize s.frn.length = m2 at *
  clear hs hf h
  go_enter Tryd.func7, Tryd.ntmps7
  go_wp2_with (go_at_call 8; with_reducible refine (HV _ (by go_grown)).mono ?_; rintro e w1 ⟨rfl, hb⟩; have hL : Below w.heap.size w w1 := bstep (by go_grown) hb)
  go_ret2
  exact ⟨rfl, hL⟩
theorem Tf.below' {W0 w w' : World} {v : Value} {b : List ByteArray} (h : Tf W0 w v b) (hb : Below w.heap.size w w') : Tf W0 w' v b := by
  refine ⟨?_, bstep h.2 hb⟩
  obtain ⟨h1, h2⟩ := h.1
  refine ⟨h1, ?_⟩
  rcases h2 with ⟨q1, q2⟩ | ⟨g, cap, cur, q3, hg, hh, h3⟩
  · exact .inl ⟨q1, q2⟩
  · refine .inr ⟨g, cap, cur, q3, hg, ?_, h3⟩
    rw [hb.block g (Array.getElem?_eq_some_iff.1 hh).1]; exact hh
theorem wrapi_small (d : Nat) (h : d ≤ 3) : IntKind.i64.wrap (d : Int) = (d : Int) := by rw [IntKind.wrap_i64]; omega
theorem wrap_small (d : Nat) (h : d ≤ 3) : wrap64 (d : Int) = (d : Int) := by unfold wrap64; omega
theorem conv_key (q : Nat) (hq : q ≤ 8) (g : Nat) (W : World) (h : W.cell? ⟨g, 0, none⟩ = some (.int .u8 (48 + (q : Int)))) : (convert 56 9 (.slice (some ⟨g, 0, none⟩) 1 1)).run Tryd.prog W = .ok (.string ⟨#[(48 + (q : Int)).toNat.toUInt8]⟩) W := by
  refine run_convert_bytes_back (P := Tryd.prog) _ 56 9 5 _ 1 [(48 + (q : Int)).toNat.toUInt8] Tryd.underlying56 Tryd.underlying5 Tryd.underlying9 ?_
  intro j hj
  rcases j with _ | j
  · have e : ((48 + (q : Int)).toNat.toUInt8.toNat : Int) = 48 + (q : Int) := by
      have : (48 + (q : Int)).toNat.toUInt8.toNat = (48 + (q : Int)).toNat % 256 := rfl
      omega
    show W.cell? (Addr.add ⟨g, 0, none⟩ 0) = some (.int .u8 _)
    rw [show (Addr.add ⟨g, 0, none⟩ 0 : Addr) = ⟨g, 0, none⟩ by simp [Addr.add], h]
    simp only [List.getElem_cons_zero]
    rw [e]
  · exact absurd hj (by simp)
theorem vld_flen {s : Sch} (h : vldS s = true) {f : Fr} (hf : f ∈ s.frn) : f.cols.length ≤ 8 := by
  unfold vldS at h
  simp only [Bool.and_eq_true, decide_eq_true_eq, List.all_eq_true] at h
  have h1 := h.2 f hf
  unfold frB at h1
  simp only [Bool.and_eq_true, decide_eq_true_eq, List.all_eq_true] at h1
  exact h1.1.1.2
theorem hd_size (s : Sch) (hn : s.name.size ≤ 30) (hj : (jnB (s.cols.map colT)).size ≤ 336) : (hdT s).size ≤ 400 := by
  unfold hdT
  simp only [ByteArray.size_append]
  show 6 + s.name.size + 2 + _ + 6 + 1 ≤ 400
  omega
theorem fr_size (f : Fr) (h1 : f.cols.length ≤ 8) (h2 : ∀ x ∈ f.cols, x.size ≤ 30) (h3 : f.tab.size ≤ 30) : (frT f).size ≤ 300 := by
  have hj := jn_size f.cols 30 h2
  have : f.cols.length * (30 + 2) ≤ 8 * 32 := Nat.mul_le_mul h1 (Nat.le_refl _)
  unfold frT
  simp only [ByteArray.size_append]
  show 10 + _ + 2 + _ ≤ 300
  omega
set_option maxRecDepth 20000 in
set_option maxHeartbeats 2000000 in
theorem text_go (s : Sch) (a1 a2 : Option Addr) (n m c1 c2 : Nat) (w : World) (hn : n = s.cols.length) (hm : m = s.frn.length) (hs : Cs w (.slice a1 n c1) s.cols) (hf : FsAt w (.slice a2 m c2) s.frn) (h : vldS s = true) :
    Calls Tryd.prog 7 #[.agg #[.string s.name, .slice a1 n c1, .int .i64 s.key, .slice a2 m c2]] w fun e w' => e = .returned (.tuple #[.string (s.frn.foldl (fun o f => o ++ frT f) (hdT s)), .int .i64 0]) ∧ Below w.heap.size w w' := by
  have HV := fun W (hb : Below w.heap.size w W) => valid_any s a1 a2 c1 c2 W (hn ▸ hs.below hb) (hm ▸ hf.below (fun r x hx => hx.below hb) hb)
  rw [h, ← hn, ← hm] at HV
  obtain ⟨k1, k2, k3, k4, k5⟩ := vld_key h
  have n8 : (n : Int) ≤ 8 := by omega
  have m8 : (m : Int) ≤ 8 := by omega
  have HN := Lib.hid hn
  have HM := Lib.hid hm
  have HS := Lib.hid hs
  have HF := Lib.hid hf
  have HX := Lib.hid h
  obtain ⟨R, hR⟩ : ∃ R, s.frn.foldl (fun o f => o ++ frT f) (hdT s) = R := ⟨_, rfl⟩
  have HR := Lib.hid hR
  rw [hR]
  clear hs hf hn hm hR h
  go_enter Tryd.func7, Tryd.ntmps7
  go_upto_region 3 with (go_at_call 8; with_reducible refine (HV _ (by go_grown)).mono ?_; rintro e w1 ⟨rfl, hb⟩; obtain ⟨_, _, p0, p1, p2, p3⟩ := box4n (w := w) (c0 := .string s.name) (c1 := .slice a1 n c1) (c2 := .int .i64 s.key) (c3 := .slice a2 m c2) (t := 25) rfl; replace p0 := Go.Proofs.YtokbipfkpojflaaDoor.Sl.cell_kept p0 hb; replace p1 := Go.Proofs.YtokbipfkpojflaaDoor.Sl.cell_kept p1 hb; replace p2 := Go.Proofs.YtokbipfkpojflaaDoor.Sl.cell_kept p2 hb; replace p3 := Go.Proofs.YtokbipfkpojflaaDoor.Sl.cell_kept p3 hb; have hL : Below w.heap.size w w1 := bstep (by go_grown) hb)
  clear HV hb
  generalize hB : w.heap.size = B at p0 p1 p2 p3 ⊢
  have HB := Lib.hid hB
  clear hB
  go_wp2
  go_loopw [4, 6, 16] (fun v _ i wr => ∃ j : Nat, j ≤ n ∧ i = .int .i64 j ∧ Tf w1 wr v ((s.cols.take j).map colT)) (fun _ _ i _ => n - (intOf i).toNat)
  case atStart => exact ⟨0, Nat.zero_le _, rfl, Tf.nil w1⟩
  case round =>
    obtain ⟨j, hj, rfl, hT⟩ := hrel
    by_cases hlt : j < n
    · obtain ⟨g, off, cp, e1, hc⟩ := (HN.out ▸ HS.out : Cs w (.slice a1 s.cols.length c1) s.cols).open (by rw [← HN.out]; omega)
      simp only [Value.slice.injEq] at e1
      obtain ⟨rfl, _, rfl⟩ := e1
      obtain ⟨⟨a, b⟩, ht⟩ : ∃ t, s.cols[j]? = some t := ⟨_, List.getElem?_eq_getElem (by rw [← HN.out]; exact hlt)⟩
      obtain ⟨z0, z1⟩ := cs_get hc ht
      have hw := bstep hL hT.2
      have d0 := Go.Proofs.YtokbipfkpojflaaDoor.Sl.cell_kept z0 hw
      have d1 := Go.Proofs.YtokbipfkpojflaaDoor.Sl.cell_kept z1 hw
      obtain ⟨q1, q2, q3⟩ := vld_cols HX.out _ (List.mem_of_getElem? ht)
      have HST := Lib.hid (map_take colT s.cols j _ ht)
      dsimp only at q1 q2 q3
      obtain ⟨d, rfl⟩ : ∃ d : Nat, b = (d : Int) + 1 := ⟨(b - 1).toNat, by omega⟩
      have qd : d ≤ 3 := by omega
      have j0 : (0 : Int) ≤ (j : Int) := by omega
      have j1 : (j : Int) < (n : Int) := by omega
      clear z0 z1 hc ht
      go_upto_region 7 with fail
      obtain ⟨W2, hW2⟩ : ∃ W2, wr.alloc (.cells #[.string a, .int .i64 ((d : Int) + 1)] 53) = W2 := ⟨_, rfl⟩
      have hT2 : Tf w1 W2 u4 ((s.cols.take j).map colT) := hW2 ▸ hT.alloc _
      obtain ⟨hL2, hlt2, u0, u1⟩ := box2n hW2
      rw [hW2]
      have hne : u4.ownBlock ≠ some wr.heap.size := fun e => by have := (hT.1.lt _ e).2; omega
      have HNE := Lib.hid hne
      clear hW2 d0 d1 hw hT hL2 hlt2 hne
      generalize wr.heap.size = G at u0 u1 HNE ⊢
      have hlen : ((s.cols.take j).map colT).length = j := by rw [List.length_map, List.length_take, ← HN.out]; omega
      have HLEN := Lib.hid hlen
      obtain ⟨i0, hi, hz0, hz1, hz2'⟩ := info_parts infoS
      have hwi : ∀ x : Nat, x ≤ 3 → IntKind.i64.wrap (x : Int) = (x : Int) := wrapi_small
      have hwr : ∀ x : Nat, x ≤ 3 → wrap64 (x : Int) = (x : Int) := wrap_small
      have hns1 : ¬ 9223372036854775807 < a.size + 1 := by omega
      have hns2 : ¬ 9223372036854775807 < a.size + 1 + (kwB ((d : Int) + 1)).size := by have := kw_size ((d : Int) + 1); omega
      have hw4 : (d : Int) < 4 := by omega
      have hS : W2.drew.cell? ⟨G, 0, none⟩ = some (.string a) ∧ W2.drew.cell? ⟨G, 1, none⟩ = some (.int .i64 ((d : Int) + 1)) := ⟨u0, u1⟩
      refine wp_region_held_drew (S := fun V => V.cell? ⟨G, 0, none⟩ = some (.string a) ∧ V.cell? ⟨G, 1, none⟩ = some (.int .i64 ((d : Int) + 1))) (by kernel_rfl) hS (fun hHeld => ?_)
      (refine wpAnyH_take (i := 0) (v := ?tkv0_1) rfl (by kernel_rfl) (by kernel_rfl) (by kernel_rfl) (fun _ _ _ h => h) (Or.inl ⟨by rfl, ?tky0_1⟩) (by assumption) ?tkr0_1; case tky0_1 => (intro V hV; (try dsimp only at hV); go_simp; (try with_reducible rfl)); try simp only [Act.put, List.setIfInBounds_toArray, List.set_cons_zero, List.set_cons_succ])
      (refine wpAnyH_take (i := 1) (v := ?tkv1_2) rfl (by kernel_rfl) (by kernel_rfl) (by kernel_rfl) (fun _ _ _ h => h) (Or.inl ⟨by rfl, ?tky1_2⟩) (by assumption) ?tkr1_2; case tky1_2 => (intro V hV; (try dsimp only at hV); go_simp; (try with_reducible rfl)); try simp only [Act.put, List.setIfInBounds_toArray, List.set_cons_zero, List.set_cons_succ])
      (refine wpAnyH_take (i := 2) (v := ?tkv2_3) rfl (by kernel_rfl) (by kernel_rfl) (by kernel_rfl) (fun _ _ _ h => h) (Or.inl ⟨by rfl, ?tky2_3⟩) (by assumption) ?tkr2_3; case tky2_3 => (intro V hV; (try dsimp only at hV); go_simp; (try with_reducible rfl)); try simp only [Act.put, List.setIfInBounds_toArray, List.set_cons_zero, List.set_cons_succ])
      (refine wpAnyH_take (i := 3) (v := ?tkv3_4) rfl (by kernel_rfl) (by kernel_rfl) (by kernel_rfl) (fun _ _ _ h => h) (Or.inl ⟨by rfl, ?tky3_4⟩) (by assumption) ?tkr3_4; case tky3_4 => (intro V hV; (try dsimp only at hV); go_simp; (try with_reducible rfl)); try simp only [Act.put, List.setIfInBounds_toArray, List.set_cons_zero, List.set_cons_succ])
      (refine wpAnyH_take (i := 5) (v := ?tkv5_5) rfl (by kernel_rfl) (by kernel_rfl) (by kernel_rfl) (fun _ _ _ h => h) (Or.inl ⟨by rfl, ?tky5_5⟩) (by assumption) ?tkr5_5; case tky5_5 => (intro V hV; (try dsimp only at hV); go_simp; (try with_reducible rfl)); try simp only [Act.put, List.setIfInBounds_toArray, List.set_cons_zero, List.set_cons_succ])
      (refine wpAnyH_take (i := 6) (v := ?tkv6_6) rfl (by kernel_rfl) (by kernel_rfl) (by kernel_rfl) (fun _ _ _ h => h) (Or.inl ⟨by rfl, ?tky6_6⟩) (by assumption) ?tkr6_6; case tky6_6 => (intro V hV; (try dsimp only at hV); go_simp; (try with_reducible rfl)); try simp only [Act.put, List.setIfInBounds_toArray, List.set_cons_zero, List.set_cons_succ])
      (refine wpAnyH_take (i := 7) (v := ?tkv7_7) rfl (by kernel_rfl) (by kernel_rfl) (by kernel_rfl) (fun _ _ _ h => h) (Or.inl ⟨by rfl, ?tky7_7⟩) (by assumption) ?tkr7_7; case tky7_7 => (intro V hV; (try dsimp only at hV); go_simp; (try with_reducible rfl)); try simp only [Act.put, List.setIfInBounds_toArray, List.set_cons_zero, List.set_cons_succ])
      (refine wpAnyH_ready (rs := [4]) (by kernel_rfl) (by simp) ?_; refine AllReadyH.cons rfl (fun K hK => ?_) AllReadyH.nil; (try go_simp); (go_at_call 20; (with_reducible refine (words_any _).mono ?_); rintro e w3 ⟨gw, rfl, hkw, hb3⟩; have hk0 : w3.cell? ⟨gw, d, none⟩ = some (.string (kwB ((d : Int) + 1))) := hkw d _ (by have := kw_at (d + 1) (by omega) (by omega); simpa using this)); refine hK.out _ _ (by exact ⟨Go.Proofs.YtokbipfkpojflaaDoor.Sl.cell_kept hS.1 hb3, Go.Proofs.YtokbipfkpojflaaDoor.Sl.cell_kept hS.2 hb3⟩) (fun hHeld => ?_); clear hK K; try simp only [Act.put, List.setIfInBounds_toArray, List.set_cons_zero, List.set_cons_succ])
      have hS3 := And.intro (Go.Proofs.YtokbipfkpojflaaDoor.Sl.cell_kept hS.1 hb3) (Go.Proofs.YtokbipfkpojflaaDoor.Sl.cell_kept hS.2 hb3)
      have hT3 : Tf w1 w3 u4 ((s.cols.take j).map colT) := (show Tf w1 W2.drew u4 ((s.cols.take j).map colT) from ⟨hT2.1.drew, bdrew hT2.2⟩).below' hb3
      (refine wpAnyH_ready (rs := [8]) (by kernel_rfl) (by simp) ?_; refine AllReadyH.cons rfl (fun K hK => ?_) AllReadyH.nil; (try go_simp); refine hK.out _ _ (by exact hS3) (fun hHeld => ?_); clear hK K; try simp only [Act.put, List.setIfInBounds_toArray, List.set_cons_zero, List.set_cons_succ])
      (refine wpAnyH_ready (rs := [9]) (by kernel_rfl) (by simp) ?_; refine AllReadyH.cons rfl (fun K hK => ?_) AllReadyH.nil; (try go_simp); refine hK.out _ _ (by exact hS3) (fun hHeld => ?_); clear hK K; try simp only [Act.put, List.setIfInBounds_toArray, List.set_cons_zero, List.set_cons_succ])
      (refine wpAnyH_ready (rs := [10]) (by kernel_rfl) (by simp) ?_; refine AllReadyH.cons rfl (fun K hK => ?_) AllReadyH.nil; (try go_simp); refine hK.out _ _ (by exact hS3) (fun hHeld => ?_); clear hK K; try simp only [Act.put, List.setIfInBounds_toArray, List.set_cons_zero, List.set_cons_succ])
      have hl4 : Below w3.heap.size w3 (w3.alloc (.cells #[.string (a ++ (⟨#[32]⟩ : ByteArray) ++ kwB ((d : Int) + 1))] 9)) := (Below.refl _ w3).alloc (Nat.le_refl _) _
      (refine wpAnyH_ready (rs := [11]) (by kernel_rfl) (by simp) ?_; refine AllReadyH.cons rfl (fun K hK => ?_) AllReadyH.nil; (try go_simp); refine hK.out _ _ (by exact ⟨Go.Proofs.YtokbipfkpojflaaDoor.Sl.cell_kept hS3.1 hl4, Go.Proofs.YtokbipfkpojflaaDoor.Sl.cell_kept hS3.2 hl4⟩) (fun hHeld => ?_); clear hK K; try simp only [Act.put, List.setIfInBounds_toArray, List.set_cons_zero, List.set_cons_succ])
      refine wpAnyH_ready (rs := [12]) (by kernel_rfl) (by simp) ?_
      refine AllReadyH.cons rfl (fun K hK => ?_) AllReadyH.nil
      have hw3 := hT3.2.size
      refine step_append_lies _ rfl _ _ 37 rfl w1.heap.size 9 i0 (.string ⟨#[]⟩) 1 16 Tryd.underlying37 hi hz0 hz1 hz2' rfl (by decide) u4 ((s.cols.take j).map colT).length (((s.cols.take j).map colT).map .string) rfl (hT3.1.alloc _) ⟨w3.heap.size, 0, none⟩ 1 1 [.string (a ++ (⟨#[32]⟩ : ByteArray) ++ kwB ((d : Int) + 1))] rfl rfl (World.news_of_block (cs := #[.string (a ++ (⟨#[32]⟩ : ByteArray) ++ kwB ((d : Int) + 1))]) (t := 9) (fr := (0, 0)) (heap_alloc_new w3 _)) (by simp [Value.oneCell']) (by decide) (by rw [hlen]; unfold maxLen; omega) (by rw [hlen]; omega) (by simp; omega) _ rfl ?_
      intro gg cap w4 hown4 hgr _ _
      have hL4 : Below w1.heap.size w1 w4 := grow_step (hT3.2.alloc hT3.2.size _) hgr (fun q hq => (hT3.1.lt q hq).1)
      have hT4 : Tf w1 w4 (.slice (some ⟨gg, 0, none⟩) (((s.cols.take j).map colT).length + 1) cap) ((s.cols.take (j + 1)).map colT) := by
        refine ⟨?_, hL4⟩
        rw [HST.out, List.map_append, List.length_append]
        exact hown4
      have hGs := block_of_cell hS3.1
      refine hK.out _ _ (by exact ⟨by rw [hgr.cell_far _ (by simp; omega) (Ne.symm HNE.out)]; exact Go.Proofs.YtokbipfkpojflaaDoor.Sl.cell_kept hS3.1 hl4, by rw [hgr.cell_far _ (by simp; omega) (Ne.symm HNE.out)]; exact Go.Proofs.YtokbipfkpojflaaDoor.Sl.cell_kept hS3.2 hl4⟩) (fun hH4 => ?_)
      clear hK K
      try simp only [Act.put, List.setIfInBounds_toArray, List.set_cons_zero, List.set_cons_succ]
      (refine wpAnyH_ready (rs := [13]) (by kernel_rfl) (by simp) ?_; refine AllReadyH.cons rfl (fun K hK => ?_) AllReadyH.nil; (try go_simp); refine hK.out _ _ (by assumption) (fun hHeld => ?_); clear hK K; try simp only [Act.put, List.setIfInBounds_toArray, List.set_cons_zero, List.set_cons_succ])
      refine wpAnyH_done (by kernel_rfl) ?_ _
      clear hgr hown4
      have hmin : ((s.cols.take j).map colT).length = min j s.cols.length := by rw [List.length_map, List.length_take]
      rw [hmin] at hT4
      go_wp2
      go_roundw
      case rel => exact ⟨j + 1, by omega, by go_num, hT4⟩
      case measure => simp [intOf]; omega
    · have e1 : s.cols.take j = s.cols := List.take_of_length_le (by rw [← HN.out]; omega)
      rw [e1] at hT
      have hLr := bstep hL hT.2
      replace p0 := Go.Proofs.YtokbipfkpojflaaDoor.Sl.cell_kept p0 hT.2
      replace p1 := Go.Proofs.YtokbipfkpojflaaDoor.Sl.cell_kept p1 hT.2
      replace p2 := Go.Proofs.YtokbipfkpojflaaDoor.Sl.cell_kept p2 hT.2
      replace p3 := Go.Proofs.YtokbipfkpojflaaDoor.Sl.cell_kept p3 hT.2
      have hcl : ∀ x ∈ s.cols.map colT, x.size ≤ 40 := by
        intro x hx
        obtain ⟨c, hc, rfl⟩ := List.mem_map.1 hx
        have h1 := (vld_cols HX.out c hc).1
        have h2 := kw_size c.2
        unfold colT
        rw [ByteArray.size_append, ByteArray.size_append]
        show c.1.size + 1 + _ ≤ _
        omega
      have HJ := fun W (h : Below wr.heap.size wr W) => join_any (s.cols.map colT) u4 W (by rw [List.length_map]; omega) (fun x hx => by have := hcl x hx; omega) (hT.ss.below h)
      have hjs : (jnB (s.cols.map colT)).size ≤ 336 := by
        have h1 := jn_size _ 40 hcl
        rw [List.length_map] at h1
        have h2 : s.cols.length * (40 + 2) ≤ 8 * 42 := Nat.mul_le_mul k3 (Nat.le_refl _)
        omega
      have hnz := vld_nsz HX.out
      obtain ⟨q, hq⟩ : ∃ q : Nat, s.key = (q : Int) := ⟨s.key.toNat, by omega⟩
      have hq8 : q ≤ 8 := by omega
      have HQK := Lib.hid hq
      rw [hq] at p2
      clear hcl e1 hq
      go_upto_region 9 with fail
      have hS : wr.drew.cell? ⟨B, 0, none⟩ = some (.string s.name) ∧ wr.drew.cell? ⟨B, 2, none⟩ = some (.int .i64 (q : Int)) := ⟨p0, p2⟩
      refine wp_region_held_drew (S := fun V => V.cell? ⟨B, 0, none⟩ = some (.string s.name) ∧ V.cell? ⟨B, 2, none⟩ = some (.int .i64 (q : Int))) (by kernel_rfl) hS (fun hHeld => ?_)
      (refine wpAnyH_take (i := 0) (v := ?tkv0_8) rfl (by kernel_rfl) (by kernel_rfl) (by kernel_rfl) (fun _ _ _ h => h) (Or.inl ⟨by rfl, ?tky0_8⟩) (by assumption) ?tkr0_8; case tky0_8 => (intro V hV; (try dsimp only at hV); go_simp; (try with_reducible rfl)); try simp only [Act.put, List.setIfInBounds_toArray, List.set_cons_zero, List.set_cons_succ])
      (refine wpAnyH_take (i := 1) (v := ?tkv1_9) rfl (by kernel_rfl) (by kernel_rfl) (by kernel_rfl) (fun _ _ _ h => h) (Or.inl ⟨by rfl, ?tky1_9⟩) (by assumption) ?tkr1_9; case tky1_9 => (intro V hV; (try dsimp only at hV); go_simp; (try with_reducible rfl)); try simp only [Act.put, List.setIfInBounds_toArray, List.set_cons_zero, List.set_cons_succ])
      (refine wpAnyH_take (i := 4) (v := ?tkv4_10) rfl (by kernel_rfl) (by kernel_rfl) (by kernel_rfl) (fun _ _ _ h => h) (Or.inl ⟨by rfl, ?tky4_10⟩) (by assumption) ?tkr4_10; case tky4_10 => (intro V hV; (try dsimp only at hV); go_simp; (try with_reducible rfl)); try simp only [Act.put, List.setIfInBounds_toArray, List.set_cons_zero, List.set_cons_succ])
      (refine wpAnyH_take (i := 8) (v := ?tkv8_11) rfl (by kernel_rfl) (by kernel_rfl) (by kernel_rfl) (fun _ _ _ h => h) (Or.inl ⟨by rfl, ?tky8_11⟩) (by assumption) ?tkr8_11; case tky8_11 => (intro V hV; (try dsimp only at hV); go_simp; (try with_reducible rfl)); try simp only [Act.put, List.setIfInBounds_toArray, List.set_cons_zero, List.set_cons_succ])
      (refine wpAnyH_take (i := 9) (v := ?tkv9_12) rfl (by kernel_rfl) (by kernel_rfl) (by kernel_rfl) (fun _ _ _ h => h) (Or.inl ⟨by rfl, ?tky9_12⟩) (by assumption) ?tkr9_12; case tky9_12 => (intro V hV; (try dsimp only at hV); go_simp; (try with_reducible rfl)); try simp only [Act.put, List.setIfInBounds_toArray, List.set_cons_zero, List.set_cons_succ])
      have hA1 : ¬ 9223372036854775807 < 6 + s.name.size := by omega
      have hA2 : ¬ 9223372036854775807 < 6 + s.name.size + 2 := by omega
      have hwi : ∀ x : Nat, x ≤ 8 → IntKind.i64.wrap (48 + (x : Int)) = 48 + (x : Int) := fun x hx => by rw [IntKind.wrap_i64]; omega
      have hwu : ∀ x : Nat, x ≤ 8 → IntKind.u8.wrap (48 + (x : Int)) = 48 + (x : Int) := fun x hx => by rw [IntKind.wrap_u8]; omega
      (refine wpAnyH_take (i := 2) (v := ?tkv2_13) rfl (by kernel_rfl) (by kernel_rfl) (by kernel_rfl) (fun _ _ _ h => h) (Or.inl ⟨by rfl, ?tky2_13⟩) (by assumption) ?tkr2_13; case tky2_13 => (intro V hV; (try dsimp only at hV); go_simp; (try with_reducible rfl)); try simp only [Act.put, List.setIfInBounds_toArray, List.set_cons_zero, List.set_cons_succ])
      (refine wpAnyH_take (i := 3) (v := ?tkv3_14) rfl (by kernel_rfl) (by kernel_rfl) (by kernel_rfl) (fun _ _ _ h => h) (Or.inl ⟨by rfl, ?tky3_14⟩) (by assumption) ?tkr3_14; case tky3_14 => (intro V hV; (try dsimp only at hV); go_simp; (try with_reducible rfl)); try simp only [Act.put, List.setIfInBounds_toArray, List.set_cons_zero, List.set_cons_succ])
      (refine wpAnyH_take (i := 10) (v := ?tkv10_15) rfl (by kernel_rfl) (by kernel_rfl) (by kernel_rfl) (fun _ _ _ h => h) (Or.inl ⟨by rfl, ?tky10_15⟩) (by assumption) ?tkr10_15; case tky10_15 => (intro V hV; (try dsimp only at hV); go_simp; (try with_reducible rfl)); try simp only [Act.put, List.setIfInBounds_toArray, List.set_cons_zero, List.set_cons_succ])
      (refine wpAnyH_take (i := 11) (v := ?tkv11_16) rfl (by kernel_rfl) (by kernel_rfl) (by kernel_rfl) (fun _ _ _ h => h) (Or.inl ⟨by rfl, ?tky11_16⟩) (by assumption) ?tkr11_16; case tky11_16 => (intro V hV; (try dsimp only at hV); go_simp; (try with_reducible rfl)); try simp only [Act.put, List.setIfInBounds_toArray, List.set_cons_zero, List.set_cons_succ])
      have hjv : ¬ 9223372036854775807 < 6 + s.name.size + 2 + (jnB (s.cols.map colT)).size := by omega
      have hjw : ¬ 9223372036854775807 < 6 + s.name.size + 2 + (jnB (s.cols.map colT)).size + 6 := by omega
      have hjx : ¬ 9223372036854775807 < 6 + s.name.size + 2 + (jnB (s.cols.map colT)).size + 6 + 1 := by omega
      have hck := conv_key q hq8
      refine wpAnyH_ready (rs := [5, 12]) (by kernel_rfl) (by simp) ?_
      refine AllReadyH.cons rfl (fun K hK => ?_) (AllReadyH.cons rfl (fun K hK => ?_) AllReadyH.nil)
      · go_simp
        refine (HJ _ (bdrew (Below.refl _ _))).mono ?_
        rintro e w2 ⟨rfl, hb2⟩
        have hS2 := And.intro (Go.Proofs.YtokbipfkpojflaaDoor.Sl.cell_kept hS.1 hb2) (Go.Proofs.YtokbipfkpojflaaDoor.Sl.cell_kept hS.2 hb2)
        refine hK.out _ _ hS2 (fun _ => ?_)
        clear hK K
        try simp only [Act.put, List.setIfInBounds_toArray, List.set_cons_zero, List.set_cons_succ]
        (refine wpAnyH_take (i := 6) (v := ?tkv6_17) rfl (by kernel_rfl) (by kernel_rfl) (by kernel_rfl) (fun _ _ _ h => h) (Or.inl ⟨by rfl, ?tky6_17⟩) (by assumption) ?tkr6_17; case tky6_17 => (intro V hV; (try dsimp only at hV); go_simp; (try with_reducible rfl)); try simp only [Act.put, List.setIfInBounds_toArray, List.set_cons_zero, List.set_cons_succ])
        (refine wpAnyH_take (i := 7) (v := ?tkv7_18) rfl (by kernel_rfl) (by kernel_rfl) (by kernel_rfl) (fun _ _ _ h => h) (Or.inl ⟨by rfl, ?tky7_18⟩) (by assumption) ?tkr7_18; case tky7_18 => (intro V hV; (try dsimp only at hV); go_simp; (try with_reducible rfl)); try simp only [Act.put, List.setIfInBounds_toArray, List.set_cons_zero, List.set_cons_succ])
        have hl3 : Below w2.heap.size w2 (w2.alloc (.cells #[.int .u8 (48 + (q : Int))] 5)) := (Below.refl _ w2).alloc (Nat.le_refl _) _
        (refine wpAnyH_ready (rs := [12]) (by kernel_rfl) (by simp) ?_; refine AllReadyH.cons rfl (fun K hK => ?_) AllReadyH.nil; (try go_simp); refine hK.out _ _ (by exact ⟨Go.Proofs.YtokbipfkpojflaaDoor.Sl.cell_kept hS2.1 hl3, Go.Proofs.YtokbipfkpojflaaDoor.Sl.cell_kept hS2.2 hl3⟩) (fun hHeld => ?_); clear hK K; try simp only [Act.put, List.setIfInBounds_toArray, List.set_cons_zero, List.set_cons_succ])
        have hS3 := And.intro (Go.Proofs.YtokbipfkpojflaaDoor.Sl.cell_kept hS2.1 hl3) (Go.Proofs.YtokbipfkpojflaaDoor.Sl.cell_kept hS2.2 hl3)
        have hck2 := hck w2.heap.size (w2.alloc (.cells #[.int .u8 (48 + (q : Int))] 5)) (bx_at w2 _ _ 0 _ rfl)
        (refine wpAnyH_ready (rs := [13]) (by kernel_rfl) (by simp) ?_; refine AllReadyH.cons rfl (fun K hK => ?_) AllReadyH.nil; (try go_simp); refine hK.out _ _ (by exact hS3) (fun hHeld => ?_); clear hK K; try simp only [Act.put, List.setIfInBounds_toArray, List.set_cons_zero, List.set_cons_succ])
        (refine wpAnyH_ready (rs := [14]) (by kernel_rfl) (by simp) ?_; refine AllReadyH.cons rfl (fun K hK => ?_) AllReadyH.nil; (try go_simp); refine hK.out _ _ (by exact hS3) (fun hHeld => ?_); clear hK K; try simp only [Act.put, List.setIfInBounds_toArray, List.set_cons_zero, List.set_cons_succ])
        (refine wpAnyH_ready (rs := [15]) (by kernel_rfl) (by simp) ?_; refine AllReadyH.cons rfl (fun K hK => ?_) AllReadyH.nil; (try go_simp); refine hK.out _ _ (by exact hS3) (fun hHeld => ?_); clear hK K; try simp only [Act.put, List.setIfInBounds_toArray, List.set_cons_zero, List.set_cons_succ])
        refine wpAnyH_done (by kernel_rfl) ?_ _
        have hbF := bstep (bstep (bdrew (Below.refl _ wr)) hb2) hl3
        have P3 := Go.Proofs.YtokbipfkpojflaaDoor.Sl.cell_kept p3 hbF
        have hbW := bstep hLr hbF
        have HT0 := Lib.hid (show hdT s = (⟨#[116, 97, 98, 108, 101, 32]⟩ : ByteArray) ++ s.name ++ ⟨#[32, 40]⟩ ++ jnB (s.cols.map colT) ++ ⟨#[41, 32, 107, 101, 121, 32]⟩ ++ ⟨#[(48 + (q : Int)).toNat.toUInt8]⟩ by unfold hdT; rw [HQK.out])
        have hts := hd_size s hnz hjs
        clear p0 p1 p2 p3 hjv hjw hjx hA1 hA2 hwi hwu hck
        go_wp2
        rw [← HT0.out]
        generalize hdT s = T0 at hts HR ⊢
        go_loopw [7, 9, 52] (fun o _ i wq => ∃ j : Nat, j ≤ m ∧ i = .int .i64 j ∧ ∃ t : ByteArray, o = .string t ∧ t.size ≤ 400 + j * 300 ∧ Hid ((s.frn.drop j).foldl (fun o f => o ++ frT f) t = R) ∧ Below w.heap.size w wq) (fun _ _ i _ => m - (intOf i).toNat)
        case atStart => exact ⟨0, Nat.zero_le _, rfl, T0, rfl, by omega, HR, hbW⟩
        case round =>
          obtain ⟨j, hj, rfl, t, rfl, hts2, HI, hLq⟩ := hrel
          obtain ⟨wq, rfl⟩ : ∃ wq, wq = wr := ⟨_, rfl⟩
          by_cases hlt3 : j < m
          · obtain ⟨g, off, cp, e1, hc⟩ := fs_get (HM.out ▸ HF.out) (by rw [← HM.out]; omega)
            simp only [Value.slice.injEq] at e1
            obtain ⟨rfl, _, rfl⟩ := e1
            obtain ⟨f, ht⟩ : ∃ t, s.frn[j]? = some t := ⟨_, List.getElem?_eq_getElem (by rw [← HM.out]; exact hlt3)⟩
            obtain ⟨ta, tc, htc, hss, c0, c1'⟩ := hc j f ht
            obtain ⟨hz1, hz2⟩ := vld_fsz HX.out (List.mem_of_getElem? ht)
            have hz3 := vld_flen HX.out (List.mem_of_getElem? ht)
            have HST := Lib.hid (show (s.frn.drop (j + 1)).foldl (fun o f => o ++ frT f) (t ++ frT f) = R by
              have h := HI.out
              rw [List.drop_eq_getElem_cons (by rw [← HM.out]; exact hlt3), List.foldl_cons, (List.getElem?_eq_some_iff.1 ht).2] at h
              exact h)
            have hfz := fr_size f hz3 hz2 hz1
            replace hss := hss.below hLq
            have d0 := Go.Proofs.YtokbipfkpojflaaDoor.Sl.cell_kept c0 hLq
            have d1 := Go.Proofs.YtokbipfkpojflaaDoor.Sl.cell_kept c1' hLq
            have j0 : (0 : Int) ≤ (j : Int) := by omega
            have j1 : (j : Int) < (m : Int) := by omega
            clear c0 c1' hc HI ht
            go_upto_region 13 with fail
            obtain ⟨W2, hW2⟩ : ∃ W2, wq.alloc (.cells #[.slice ta f.cols.length tc, .string f.tab] 50) = W2 := ⟨_, rfl⟩
            obtain ⟨hL2, hlt2, u0, u1⟩ := box2n hW2
            rw [hW2]
            have g0 := cell_regrown u0
            have g1 := cell_regrown u1
            have HJ2 := fun d os => join_any f.cols (.slice ta f.cols.length tc) (Go.Sort.grow (redrawn W2 d) os) (by omega) (fun x hx => by have := hz2 x hx; omega) (hss.below (bstep hL2 (below_regrown W2 d os)))
            have hjz := jn_size f.cols 30 hz2
            have hjz2 : (jnB f.cols).size ≤ 256 := by
              have : f.cols.length * (30 + 2) ≤ 8 * 32 := Nat.mul_le_mul hz3 (Nat.le_refl _)
              omega
            have hfr : frT f = (⟨#[32, 102, 111, 114, 101, 105, 103, 110, 32, 40]⟩ : ByteArray) ++ jnB f.cols ++ ⟨#[41, 32]⟩ ++ f.tab := rfl
            have HFR := Lib.hid hfr
            generalize hfc : f.cols.length = fcl at *
            generalize f.tab = tab at *
            generalize jnB f.cols = J at *
            generalize frT f = FT at *
            have hx1 : ¬ 9223372036854775807 < 10 + J.size := by omega
            have hx2 : ¬ 9223372036854775807 < 10 + J.size + 2 := by omega
            have hx3 : ¬ 9223372036854775807 < 10 + J.size + 2 + tab.size := by omega
            have hx4 : ¬ 9223372036854775807 < t.size + (10 + J.size + 2 + tab.size) := by omega
            clear hfr hW2 hss
            refine wp_region_quiet_below (by kernel_rfl) (by kernel_rfl) ?_
            repeat (go_big_quiet_step (first | (go_at_call 21; with_reducible exact Calls.regrown_of (HJ2 _ _))))
            refine wpQuiet_nil ?_
            intro _ hw9
            obtain ⟨⟨dq, osq⟩, hw9⟩ := hw9
            subst hw9
            have hL5 := bstep (bstep hLq hL2) (below_regrown W2 dq osq)
            go_wp2
            rw [← HFR.out]
            go_roundw
            case rel => exact ⟨j + 1, by omega, by go_num, _, rfl, by rw [ByteArray.size_append]; omega, HST, hL5⟩
            case measure => simp [intOf]; omega
          · have HE := Lib.hid (show t = R by
              have h := HI.out
              rw [List.drop_of_length_le (by rw [← HM.out]; omega)] at h
              exact h)
            go_wp2
            go_ret2
            exact ⟨by rw [HE.out]; rfl, hLq⟩
      · go_simp
        have hl3 : Below wr.heap.size wr (wr.alloc (.cells #[.int .u8 (48 + (q : Int))] 5)).drew := bdrew ((Below.refl _ wr).alloc (Nat.le_refl _) _)
        have hS3 := And.intro (Go.Proofs.YtokbipfkpojflaaDoor.Sl.cell_kept p0 hl3) (Go.Proofs.YtokbipfkpojflaaDoor.Sl.cell_kept p2 hl3)
        refine hK.out _ _ hS3 (fun _ => ?_)
        clear hK K
        try simp only [Act.put, List.setIfInBounds_toArray, List.set_cons_zero, List.set_cons_succ]
        have hcl0 : (wr.alloc (.cells #[.int .u8 (48 + (q : Int))] 5)).drew.cell? ⟨wr.heap.size, 0, none⟩ = some (.int .u8 (48 + (q : Int))) := bx_at wr _ _ 0 _ rfl
        have hck2 := hck wr.heap.size _ hcl0
        refine wpAnyH_ready (rs := [5, 13]) (by kernel_rfl) (by simp) ?_
        refine AllReadyH.cons rfl (fun K hK => ?_) (AllReadyH.cons rfl (fun K hK => ?_) AllReadyH.nil)
        · go_simp
          refine (HJ _ hl3).mono ?_
          rintro e w2 ⟨rfl, hb2⟩
          have hS2 := And.intro (Go.Proofs.YtokbipfkpojflaaDoor.Sl.cell_kept hS3.1 hb2) (Go.Proofs.YtokbipfkpojflaaDoor.Sl.cell_kept hS3.2 hb2)
          refine hK.out _ _ hS2 (fun _ => ?_)
          clear hK K
          try simp only [Act.put, List.setIfInBounds_toArray, List.set_cons_zero, List.set_cons_succ]
          (refine wpAnyH_take (i := 6) (v := ?tkv6_19) rfl (by kernel_rfl) (by kernel_rfl) (by kernel_rfl) (fun _ _ _ h => h) (Or.inl ⟨by rfl, ?tky6_19⟩) (by assumption) ?tkr6_19; case tky6_19 => (intro V hV; (try dsimp only at hV); go_simp; (try with_reducible rfl)); try simp only [Act.put, List.setIfInBounds_toArray, List.set_cons_zero, List.set_cons_succ])
          (refine wpAnyH_take (i := 7) (v := ?tkv7_20) rfl (by kernel_rfl) (by kernel_rfl) (by kernel_rfl) (fun _ _ _ h => h) (Or.inl ⟨by rfl, ?tky7_20⟩) (by assumption) ?tkr7_20; case tky7_20 => (intro V hV; (try dsimp only at hV); go_simp; (try with_reducible rfl)); try simp only [Act.put, List.setIfInBounds_toArray, List.set_cons_zero, List.set_cons_succ])
          have hck3 := hck wr.heap.size w2 (Go.Proofs.YtokbipfkpojflaaDoor.Sl.cell_kept hcl0 hb2)
          (refine wpAnyH_ready (rs := [13]) (by kernel_rfl) (by simp) ?_; refine AllReadyH.cons rfl (fun K hK => ?_) AllReadyH.nil; (try go_simp); refine hK.out _ _ (by exact hS2) (fun hHeld => ?_); clear hK K; try simp only [Act.put, List.setIfInBounds_toArray, List.set_cons_zero, List.set_cons_succ])
          (refine wpAnyH_ready (rs := [14]) (by kernel_rfl) (by simp) ?_; refine AllReadyH.cons rfl (fun K hK => ?_) AllReadyH.nil; (try go_simp); refine hK.out _ _ (by exact hS2) (fun hHeld => ?_); clear hK K; try simp only [Act.put, List.setIfInBounds_toArray, List.set_cons_zero, List.set_cons_succ])
          (refine wpAnyH_ready (rs := [15]) (by kernel_rfl) (by simp) ?_; refine AllReadyH.cons rfl (fun K hK => ?_) AllReadyH.nil; (try go_simp); refine hK.out _ _ (by exact hS2) (fun hHeld => ?_); clear hK K; try simp only [Act.put, List.setIfInBounds_toArray, List.set_cons_zero, List.set_cons_succ])
          refine wpAnyH_done (by kernel_rfl) ?_ _
          have hbF := bstep hl3 hb2
          have P3 := Go.Proofs.YtokbipfkpojflaaDoor.Sl.cell_kept p3 hbF
          have hbW := bstep hLr hbF
          have HT0 := Lib.hid (show hdT s = (⟨#[116, 97, 98, 108, 101, 32]⟩ : ByteArray) ++ s.name ++ ⟨#[32, 40]⟩ ++ jnB (s.cols.map colT) ++ ⟨#[41, 32, 107, 101, 121, 32]⟩ ++ ⟨#[(48 + (q : Int)).toNat.toUInt8]⟩ by unfold hdT; rw [HQK.out])
          have hts := hd_size s hnz hjs
          clear p0 p1 p2 p3 hjv hjw hjx hA1 hA2 hwi hwu hck
          go_wp2
          rw [← HT0.out]
          generalize hdT s = T0 at hts HR ⊢
          go_loopw [7, 9, 52] (fun o _ i wq => ∃ j : Nat, j ≤ m ∧ i = .int .i64 j ∧ ∃ t : ByteArray, o = .string t ∧ t.size ≤ 400 + j * 300 ∧ Hid ((s.frn.drop j).foldl (fun o f => o ++ frT f) t = R) ∧ Below w.heap.size w wq) (fun _ _ i _ => m - (intOf i).toNat)
          case atStart => exact ⟨0, Nat.zero_le _, rfl, T0, rfl, by omega, HR, hbW⟩
          case round =>
            obtain ⟨j, hj, rfl, t, rfl, hts2, HI, hLq⟩ := hrel
            obtain ⟨wq, rfl⟩ : ∃ wq, wq = wr := ⟨_, rfl⟩
            by_cases hlt3 : j < m
            · obtain ⟨g, off, cp, e1, hc⟩ := fs_get (HM.out ▸ HF.out) (by rw [← HM.out]; omega)
              simp only [Value.slice.injEq] at e1
              obtain ⟨rfl, _, rfl⟩ := e1
              obtain ⟨f, ht⟩ : ∃ t, s.frn[j]? = some t := ⟨_, List.getElem?_eq_getElem (by rw [← HM.out]; exact hlt3)⟩
              obtain ⟨ta, tc, htc, hss, c0, c1'⟩ := hc j f ht
              obtain ⟨hz1, hz2⟩ := vld_fsz HX.out (List.mem_of_getElem? ht)
              have hz3 := vld_flen HX.out (List.mem_of_getElem? ht)
              have HST := Lib.hid (show (s.frn.drop (j + 1)).foldl (fun o f => o ++ frT f) (t ++ frT f) = R by
                have h := HI.out
                rw [List.drop_eq_getElem_cons (by rw [← HM.out]; exact hlt3), List.foldl_cons, (List.getElem?_eq_some_iff.1 ht).2] at h
                exact h)
              have hfz := fr_size f hz3 hz2 hz1
              replace hss := hss.below hLq
              have d0 := Go.Proofs.YtokbipfkpojflaaDoor.Sl.cell_kept c0 hLq
              have d1 := Go.Proofs.YtokbipfkpojflaaDoor.Sl.cell_kept c1' hLq
              have j0 : (0 : Int) ≤ (j : Int) := by omega
              have j1 : (j : Int) < (m : Int) := by omega
              clear c0 c1' hc HI ht
              go_upto_region 13 with fail
              obtain ⟨W2, hW2⟩ : ∃ W2, wq.alloc (.cells #[.slice ta f.cols.length tc, .string f.tab] 50) = W2 := ⟨_, rfl⟩
              obtain ⟨hL2, hlt2, u0, u1⟩ := box2n hW2
              rw [hW2]
              have g0 := cell_regrown u0
              have g1 := cell_regrown u1
              have HJ2 := fun d os => join_any f.cols (.slice ta f.cols.length tc) (Go.Sort.grow (redrawn W2 d) os) (by omega) (fun x hx => by have := hz2 x hx; omega) (hss.below (bstep hL2 (below_regrown W2 d os)))
              have hjz := jn_size f.cols 30 hz2
              have hjz2 : (jnB f.cols).size ≤ 256 := by
                have : f.cols.length * (30 + 2) ≤ 8 * 32 := Nat.mul_le_mul hz3 (Nat.le_refl _)
                omega
              have hfr : frT f = (⟨#[32, 102, 111, 114, 101, 105, 103, 110, 32, 40]⟩ : ByteArray) ++ jnB f.cols ++ ⟨#[41, 32]⟩ ++ f.tab := rfl
              have HFR := Lib.hid hfr
              generalize hfc : f.cols.length = fcl at *
              generalize f.tab = tab at *
              generalize jnB f.cols = J at *
              generalize frT f = FT at *
              have hx1 : ¬ 9223372036854775807 < 10 + J.size := by omega
              have hx2 : ¬ 9223372036854775807 < 10 + J.size + 2 := by omega
              have hx3 : ¬ 9223372036854775807 < 10 + J.size + 2 + tab.size := by omega
              have hx4 : ¬ 9223372036854775807 < t.size + (10 + J.size + 2 + tab.size) := by omega
              clear hfr hW2 hss
              refine wp_region_quiet_below (by kernel_rfl) (by kernel_rfl) ?_
              repeat (go_big_quiet_step (first | (go_at_call 21; with_reducible exact Calls.regrown_of (HJ2 _ _))))
              refine wpQuiet_nil ?_
              intro _ hw9
              obtain ⟨⟨dq, osq⟩, hw9⟩ := hw9
              subst hw9
              have hL5 := bstep (bstep hLq hL2) (below_regrown W2 dq osq)
              go_wp2
              rw [← HFR.out]
              go_roundw
              case rel => exact ⟨j + 1, by omega, by go_num, _, rfl, by rw [ByteArray.size_append]; omega, HST, hL5⟩
              case measure => simp [intOf]; omega
            · have HE := Lib.hid (show t = R by
                have h := HI.out
                rw [List.drop_of_length_le (by rw [← HM.out]; omega)] at h
                exact h)
              go_wp2
              go_ret2
              exact ⟨by rw [HE.out]; rfl, hLq⟩
        · go_simp
          refine hK.out _ _ hS3 (fun _ => ?_)
          clear hK K
          try simp only [Act.put, List.setIfInBounds_toArray, List.set_cons_zero, List.set_cons_succ]
          refine wpAnyH_ready (rs := [5]) (by kernel_rfl) (by simp) ?_
          refine AllReadyH.cons rfl (fun K hK => ?_) AllReadyH.nil
          go_simp
          refine (HJ _ hl3).mono ?_
          rintro e w2 ⟨rfl, hb2⟩
          have hS2 := And.intro (Go.Proofs.YtokbipfkpojflaaDoor.Sl.cell_kept hS3.1 hb2) (Go.Proofs.YtokbipfkpojflaaDoor.Sl.cell_kept hS3.2 hb2)
          refine hK.out _ _ hS2 (fun _ => ?_)
          clear hK K
          try simp only [Act.put, List.setIfInBounds_toArray, List.set_cons_zero, List.set_cons_succ]
          (refine wpAnyH_take (i := 6) (v := ?tkv6_21) rfl (by kernel_rfl) (by kernel_rfl) (by kernel_rfl) (fun _ _ _ h => h) (Or.inl ⟨by rfl, ?tky6_21⟩) (by assumption) ?tkr6_21; case tky6_21 => (intro V hV; (try dsimp only at hV); go_simp; (try with_reducible rfl)); try simp only [Act.put, List.setIfInBounds_toArray, List.set_cons_zero, List.set_cons_succ])
          (refine wpAnyH_take (i := 7) (v := ?tkv7_22) rfl (by kernel_rfl) (by kernel_rfl) (by kernel_rfl) (fun _ _ _ h => h) (Or.inl ⟨by rfl, ?tky7_22⟩) (by assumption) ?tkr7_22; case tky7_22 => (intro V hV; (try dsimp only at hV); go_simp; (try with_reducible rfl)); try simp only [Act.put, List.setIfInBounds_toArray, List.set_cons_zero, List.set_cons_succ])
          (refine wpAnyH_ready (rs := [14]) (by kernel_rfl) (by simp) ?_; refine AllReadyH.cons rfl (fun K hK => ?_) AllReadyH.nil; (try go_simp); refine hK.out _ _ (by exact hS2) (fun hHeld => ?_); clear hK K; try simp only [Act.put, List.setIfInBounds_toArray, List.set_cons_zero, List.set_cons_succ])
          (refine wpAnyH_ready (rs := [15]) (by kernel_rfl) (by simp) ?_; refine AllReadyH.cons rfl (fun K hK => ?_) AllReadyH.nil; (try go_simp); refine hK.out _ _ (by exact hS2) (fun hHeld => ?_); clear hK K; try simp only [Act.put, List.setIfInBounds_toArray, List.set_cons_zero, List.set_cons_succ])
          refine wpAnyH_done (by kernel_rfl) ?_ _
          have hbF := bstep hl3 hb2
          have P3 := Go.Proofs.YtokbipfkpojflaaDoor.Sl.cell_kept p3 hbF
          have hbW := bstep hLr hbF
          have HT0 := Lib.hid (show hdT s = (⟨#[116, 97, 98, 108, 101, 32]⟩ : ByteArray) ++ s.name ++ ⟨#[32, 40]⟩ ++ jnB (s.cols.map colT) ++ ⟨#[41, 32, 107, 101, 121, 32]⟩ ++ ⟨#[(48 + (q : Int)).toNat.toUInt8]⟩ by unfold hdT; rw [HQK.out])
          have hts := hd_size s hnz hjs
          clear p0 p1 p2 p3 hjv hjw hjx hA1 hA2 hwi hwu hck
          go_wp2
          rw [← HT0.out]
          generalize hdT s = T0 at hts HR ⊢
          go_loopw [7, 9, 52] (fun o _ i wq => ∃ j : Nat, j ≤ m ∧ i = .int .i64 j ∧ ∃ t : ByteArray, o = .string t ∧ t.size ≤ 400 + j * 300 ∧ Hid ((s.frn.drop j).foldl (fun o f => o ++ frT f) t = R) ∧ Below w.heap.size w wq) (fun _ _ i _ => m - (intOf i).toNat)
          case atStart => exact ⟨0, Nat.zero_le _, rfl, T0, rfl, by omega, HR, hbW⟩
          case round =>
            obtain ⟨j, hj, rfl, t, rfl, hts2, HI, hLq⟩ := hrel
            obtain ⟨wq, rfl⟩ : ∃ wq, wq = wr := ⟨_, rfl⟩
            by_cases hlt3 : j < m
            · obtain ⟨g, off, cp, e1, hc⟩ := fs_get (HM.out ▸ HF.out) (by rw [← HM.out]; omega)
              simp only [Value.slice.injEq] at e1
              obtain ⟨rfl, _, rfl⟩ := e1
              obtain ⟨f, ht⟩ : ∃ t, s.frn[j]? = some t := ⟨_, List.getElem?_eq_getElem (by rw [← HM.out]; exact hlt3)⟩
              obtain ⟨ta, tc, htc, hss, c0, c1'⟩ := hc j f ht
              obtain ⟨hz1, hz2⟩ := vld_fsz HX.out (List.mem_of_getElem? ht)
              have hz3 := vld_flen HX.out (List.mem_of_getElem? ht)
              have HST := Lib.hid (show (s.frn.drop (j + 1)).foldl (fun o f => o ++ frT f) (t ++ frT f) = R by
                have h := HI.out
                rw [List.drop_eq_getElem_cons (by rw [← HM.out]; exact hlt3), List.foldl_cons, (List.getElem?_eq_some_iff.1 ht).2] at h
                exact h)
              have hfz := fr_size f hz3 hz2 hz1
              replace hss := hss.below hLq
              have d0 := Go.Proofs.YtokbipfkpojflaaDoor.Sl.cell_kept c0 hLq
              have d1 := Go.Proofs.YtokbipfkpojflaaDoor.Sl.cell_kept c1' hLq
              have j0 : (0 : Int) ≤ (j : Int) := by omega
              have j1 : (j : Int) < (m : Int) := by omega
              clear c0 c1' hc HI ht
              go_upto_region 13 with fail
              obtain ⟨W2, hW2⟩ : ∃ W2, wq.alloc (.cells #[.slice ta f.cols.length tc, .string f.tab] 50) = W2 := ⟨_, rfl⟩
              obtain ⟨hL2, hlt2, u0, u1⟩ := box2n hW2
              rw [hW2]
              have g0 := cell_regrown u0
              have g1 := cell_regrown u1
              have HJ2 := fun d os => join_any f.cols (.slice ta f.cols.length tc) (Go.Sort.grow (redrawn W2 d) os) (by omega) (fun x hx => by have := hz2 x hx; omega) (hss.below (bstep hL2 (below_regrown W2 d os)))
              have hjz := jn_size f.cols 30 hz2
              have hjz2 : (jnB f.cols).size ≤ 256 := by
                have : f.cols.length * (30 + 2) ≤ 8 * 32 := Nat.mul_le_mul hz3 (Nat.le_refl _)
                omega
              have hfr : frT f = (⟨#[32, 102, 111, 114, 101, 105, 103, 110, 32, 40]⟩ : ByteArray) ++ jnB f.cols ++ ⟨#[41, 32]⟩ ++ f.tab := rfl
              have HFR := Lib.hid hfr
              generalize hfc : f.cols.length = fcl at *
              generalize f.tab = tab at *
              generalize jnB f.cols = J at *
              generalize frT f = FT at *
              have hx1 : ¬ 9223372036854775807 < 10 + J.size := by omega
              have hx2 : ¬ 9223372036854775807 < 10 + J.size + 2 := by omega
              have hx3 : ¬ 9223372036854775807 < 10 + J.size + 2 + tab.size := by omega
              have hx4 : ¬ 9223372036854775807 < t.size + (10 + J.size + 2 + tab.size) := by omega
              clear hfr hW2 hss
              refine wp_region_quiet_below (by kernel_rfl) (by kernel_rfl) ?_
              repeat (go_big_quiet_step (first | (go_at_call 21; with_reducible exact Calls.regrown_of (HJ2 _ _))))
              refine wpQuiet_nil ?_
              intro _ hw9
              obtain ⟨⟨dq, osq⟩, hw9⟩ := hw9
              subst hw9
              have hL5 := bstep (bstep hLq hL2) (below_regrown W2 dq osq)
              go_wp2
              rw [← HFR.out]
              go_roundw
              case rel => exact ⟨j + 1, by omega, by go_num, _, rfl, by rw [ByteArray.size_append]; omega, HST, hL5⟩
              case measure => simp [intOf]; omega
            · have HE := Lib.hid (show t = R by
                have h := HI.out
                rw [List.drop_of_length_le (by rw [← HM.out]; omega)] at h
                exact h)
              go_wp2
              go_ret2
              exact ⟨by rw [HE.out]; rfl, hLq⟩
theorem text_any (s : Sch) (a1 a2 : Option Addr) (c1 c2 : Nat) (w : World) (hs : Cs w (.slice a1 s.cols.length c1) s.cols) (hf : FsAt w (.slice a2 s.frn.length c2) s.frn) :
    Calls Tryd.prog 7 #[agS s.name (.slice a1 s.cols.length c1) s.key (.slice a2 s.frn.length c2)] w fun e w' => e = .returned (.tuple #[.string (txtS s).1, .int .i64 (txtS s).2]) ∧ Below w.heap.size w w' := by
  unfold txtS
  by_cases h : vldS s = false
  · rw [if_pos h]
    exact text_bad s a1 a2 c1 c2 w hs hf h
  · rw [if_neg h]
    exact text_go s a1 a2 _ _ c1 c2 w rfl rfl hs hf (by simpa using h)
end Go.Proofs.YtokbipfkpojflaaDoor.Sc
