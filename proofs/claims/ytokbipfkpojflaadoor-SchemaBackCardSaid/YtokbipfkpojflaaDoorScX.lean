/-
  Lists of schemas: slices.IndexFunc at them, Find (layer 34).
-/
import Derived.Test.YtokbipfkpojflaaDoorScW
set_option linter.unusedSimpArgs false
set_option linter.unusedVariables false
namespace Go.Proofs.YtokbipfkpojflaaDoor.Sc
open Go Go.RowKit Go.ChangeShapes Go.WideShapes Go.Proofs.YtokbipfkpojflaaDoor.Sl Go.Proofs.YtokbipfkpojflaaDoor.Va Go.Lib

/-- The first place at which p holds. -/
def idxP {α : Type} (p : α → Bool) : Nat → List α → Int
  | _, [] => -1
  | k, v :: l => if p v then k else idxP p (k + 1) l
theorem idxP_ge {α : Type} (p : α → Bool) : ∀ (l : List α) (k : Nat), (idxP p k l = -1 ∧ l.any p = false) ∨ ((k : Int) ≤ idxP p k l ∧ idxP p k l < k + l.length ∧ l.any p = true ∧ ∃ x, l[(idxP p k l - k).toNat]? = some x ∧ p x = true)
  | [], k => .inl ⟨rfl, rfl⟩
  | v :: l, k => by
    unfold idxP
    cases h : p v
    · rw [if_neg (by simp), List.any_cons, h, Bool.false_or]
      rcases idxP_ge p l (k + 1) with h1 | ⟨h1, h2, h3, x, h4, h5⟩
      · exact .inl h1
      · refine .inr ⟨by omega, by rw [List.length_cons]; omega, h3, x, ?_, h5⟩
        rw [show (idxP p (k + 1) l - (k : Int)).toNat = (idxP p (k + 1) l - ((k + 1 : Nat) : Int)).toNat + 1 by omega]
        simpa using h4
    · rw [if_pos rfl, List.any_cons, h]
      exact .inr ⟨Int.le_refl _, by rw [List.length_cons]; omega, rfl, v, by simp, h⟩
theorem idxP_pos {α : Type} (p : α → Bool) (l : List α) : decide (0 ≤ idxP p 0 l) = l.any p := by
  rcases idxP_ge p l 0 with ⟨h1, h2⟩ | ⟨h1, _, h2, _⟩
  · rw [h1, h2]; rfl
  · rw [h2]; simpa using h1
theorem idxP_step {α : Type} (p : α → Bool) (l : List α) (k : Nat) (v : α) (h : l[k]? = some v) : idxP p k (l.drop k) = if p v then (k : Int) else idxP p (k + 1) (l.drop (k + 1)) := by
  have hk : k < l.length := (List.getElem?_eq_some_iff.1 h).1
  rw [List.drop_eq_getElem_cons hk, idxP, (List.getElem?_eq_some_iff.1 h).2]
theorem fndS_is (name : ByteArray) : ∀ (l : List Sch) (k : Nat), idxP (fun s : Sch => decide (s.name = name)) k l = fndS name k l
  | [], k => rfl
  | s :: l, k => by
    unfold idxP fndS
    rw [fndS_is name l (k + 1)]
    by_cases h : s.name = name <;> simp [h]
/-- The first i of nested things. -/
theorem Nest.take {α : Type} {k : Nat} {P : World → List Value → α → Prop} {w : World} {ad : Option Addr} {n cap : Nat} {l : List α} (i : Nat) (h : Nest k P w (.slice ad n cap) l) (hi : i ≤ l.length) : Nest k P w (.slice ad i cap) (l.take i) := by
  obtain ⟨rows, h1, ⟨h2, h2c⟩, h3, h4⟩ := h
  have hn : n = l.length := by
    obtain ⟨a, c, e⟩ := h2.form
    simp only [Value.slice.injEq] at e
    exact e.2.1
  have hlen : (l.take i).length = i := by simp; omega
  refine ⟨rows.take i, by simp [h1], ⟨?_, Cap.mk (by have := h2c.le; omega)⟩, fun r hr => h3 r (List.mem_of_mem_take hr), fun j r x hr hx => ?_⟩
  · rw [hlen]
    have hall : ∀ L : List (List Value), (∀ r ∈ L, r.length = k) → L.flatten.length = L.length * k := by
      intro L
      induction L with
      | nil => intro _; simp
      | cons r L ih => intro hL; rw [List.flatten_cons, List.length_append, ih (fun r hr => hL r (by simp [hr])), hL r (by simp), List.length_cons, Nat.succ_mul]; omega
    refine ⟨by rw [hall _ (fun r hr => h3 r (List.mem_of_mem_take hr))]; simp [h1]; rw [Nat.min_eq_left hi], ad, cap, rfl, fun h0 => ?_⟩
    obtain ⟨_, ad2, cap2, e, h5⟩ := h2
    simp only [Value.slice.injEq] at e
    obtain ⟨rfl, _, rfl⟩ := e
    obtain ⟨g, off, rfl, hc⟩ := h5 (by omega)
    refine ⟨g, off, rfl, fun j u hu => hc j u ?_⟩
    rw [← List.take_append_drop i rows, List.flatten_append, List.getElem?_append_left (List.getElem?_eq_some_iff.1 hu).1]
    exact hu
  · rw [List.getElem?_take] at hr hx
    by_cases hj : j < i
    · rw [if_pos hj] at hr hx
      exact h4 j r x hr hx
    · rw [if_neg hj] at hr; cases hr
/-- One schema of a slice of them. -/
theorem ls_get {w : World} {s : Value} {l : List Sch} (h : LsAt w s l) (h0 : l.length ≠ 0) : ∃ g off cap, s = .slice (some ⟨g, off, none⟩) l.length cap ∧ ∀ (i : Nat) (x : Sch), l[i]? = some x → ∃ a1 c1 a2 c2, Cs w (.slice a1 x.cols.length c1) x.cols ∧ FsAt w (.slice a2 x.frn.length c2) x.frn ∧
    w.cell? ⟨g, off + i * 4, none⟩ = some (.string x.name) ∧ w.cell? ⟨g, off + i * 4 + 1, none⟩ = some (.slice a1 x.cols.length c1) ∧ w.cell? ⟨g, off + i * 4 + 2, none⟩ = some (.int .i64 x.key) ∧ w.cell? ⟨g, off + i * 4 + 3, none⟩ = some (.slice a2 x.frn.length c2) := by
  obtain ⟨g, off, cap, rfl, hc⟩ := Nest.get h h0
  refine ⟨g, off, cap, rfl, fun i x hx => ?_⟩
  obtain ⟨r, _, hs, hcell⟩ := hc i x hx
  obtain ⟨a1, c1, a2, c2, rfl, h1, h2⟩ := hs.shape
  exact ⟨a1, c1, a2, c2, h1, h2, hcell 0 _ rfl, hcell 1 _ rfl, hcell 2 _ rfl, hcell 3 _ rfl⟩
/-- The value of a schema. -/
abbrev agS (sn : ByteArray) (sc : Value) (key : Int) (sf : Value) : Value := .agg #[.string sn, sc, .int .i64 key, sf]
set_option maxRecDepth 20000 in
theorem idx_sch (N : Nat) (HE : ∀ (args : Array Value) (w : World), (callFunc N args).run Tryd.prog w = .ok (.enter N args) w) (cp : Value) (p : Sch → Bool) (I : World → Prop) (hI : ∀ W W', I W → Below W.heap.size W W' → I W')
    (l : List Sch) (HP : ∀ (W : World) (s : Sch) (a1 a2 : Option Addr) (c1 c2 : Nat), s ∈ l → I W → Cs W (.slice a1 s.cols.length c1) s.cols → FsAt W (.slice a2 s.frn.length c2) s.frn → Calls Tryd.prog N #[agS s.name (.slice a1 s.cols.length c1) s.key (.slice a2 s.frn.length c2), cp] W fun e w' => e = .returned (.bool (p s)) ∧ Below W.heap.size W w')
    (hl : l.length ≤ 1000000) (s : Value) (w : World) (hs : LsAt w s l) (hw : I w) :
    Calls Tryd.prog 45 #[s, .func (.func N) #[] #[cp]] w fun e w' => e = .returned (.int .i64 (idxP p 0 l)) ∧ Below w.heap.size w w' := by
  have HI0 := Lib.hid hw
  have HP0 := Lib.hid HP
  have HII := Lib.hid hI
  clear hw HP hI
  by_cases h0 : l.length = 0
  · obtain ⟨ad, cap, rfl, _⟩ := Nest.form hs
    have hn2 : l = [] := List.length_eq_zero_iff.1 h0
    subst hn2
    show Calls Tryd.prog 45 #[.slice ad 0 cap, _] w fun e w' => e = .returned (.int .i64 (-1)) ∧ Below w.heap.size w w'
    go_enter Tryd.func45, Tryd.ntmps45
    go_wp2
    refine wp_loop_rounds 1 ?_
    rw [rounds_succ]
    go_wp2
    go_ret
    exact ⟨rfl, Below.refl _ _⟩
  · obtain ⟨g, off, cap, rfl, hc⟩ := ls_get hs h0
    obtain ⟨n, hnn⟩ : ∃ n, n = l.length := ⟨_, rfl⟩
    obtain ⟨Z, hZ⟩ : ∃ Z, idxP p 0 l = Z := ⟨_, rfl⟩
    have HN := Lib.hid hnn
    have HZ := Lib.hid hZ
    have HC := Lib.hid hc
    rw [← hnn] at h0 hl ⊢
    rw [hZ]
    clear hc hs hnn hZ
    go_enter Tryd.func45, Tryd.ntmps45
    go_wp2
    go_loopw [8] (fun i wr => ∃ k : Nat, k ≤ n ∧ i = .int .i64 k ∧ Hid (idxP p k (l.drop k) = Z) ∧ Below w.heap.size w wr) (fun i _ => n - (intOf i).toNat)
    case atStart => exact ⟨0, Nat.zero_le _, rfl, Lib.hid HZ.out, Below.refl _ _⟩
    case round =>
      obtain ⟨k, hk, rfl, HI, hL⟩ := hrel
      by_cases hlt : k < n
      · obtain ⟨x, ht⟩ : ∃ t, l[k]? = some t := ⟨_, List.getElem?_eq_getElem (by rw [← HN.out]; exact hlt)⟩
        have hst := idxP_step p l k _ ht
        rw [HI.out] at hst
        obtain ⟨a1, c1, a2, c2, e1, e2, z0, z1, z2, z3⟩ := HC.out k x ht
        have d0 := cell_kept z0 hL
        have d1 := cell_kept z1 hL
        have d2 := cell_kept z2 hL
        have d3 := cell_kept z3 hL
        have HB := HP0.out wr x a1 a2 c1 c2 (List.mem_of_getElem? ht) (HII.out _ _ HI0.out hL) (e1.below hL) (e2.below (fun r x hx => hx.below hL) hL)
        have k0 : (0 : Int) ≤ (k : Int) := by omega
        have k1 : (k : Int) < (n : Int) := by omega
        clear ht e1 e2 z0 z1 z2 z3
        generalize p x = px at HB hst
        generalize x.cols.length = q1 at *
        generalize x.frn.length = q2 at *
        cases px
        · have HS2 : Hid (idxP p (k + 1) (l.drop (k + 1)) = Z) := Lib.hid (by rw [if_neg (by simp)] at hst; exact hst.symm)
          clear hst
          go_wp2_with (with_reducible refine HB.mono ?_; rintro e w1 ⟨rfl, hb⟩; have hL2 := bstep hL hb; clear hb)
          go_roundw
          case rel => exact ⟨k + 1, by omega, by go_num, HS2, hL2⟩
          case measure => simp [intOf]; omega
        · have HS2 : Hid (Z = k) := Lib.hid (by rw [if_pos rfl] at hst; exact hst)
          clear hst
          go_wp2_with (with_reducible refine HB.mono ?_; rintro e w1 ⟨rfl, hb⟩; have hL2 := bstep hL hb; clear hb)
          go_ret
          exact ⟨by rw [HS2.out]; rfl, hL2⟩
      · go_wp2
        go_ret
        exact ⟨by show Ending.returned (.int .i64 (-1)) = _; rw [← HI.out, List.drop_of_length_le (by rw [← HN.out]; omega)]; rfl, hL⟩
theorem enter_find (args : Array Value) (w : World) : (callFunc 68 args).run Tryd.prog w = .ok (.enter 68 args) w := by simp [go_sem, Tryd.func68]
theorem fcl_any (sn name : ByteArray) (sc : Value) (key : Int) (sf : Value) (B : Nat) (w : World) (h1 : sc.oneCell' = true) (h2 : sf.oneCell' = true) (hc : w.cell? ⟨B, 0, none⟩ = some (.string name)) :
    Calls Tryd.prog 68 #[agS sn sc key sf, .pointer (some ⟨B, 0, none⟩)] w fun e w' => e = .returned (.bool (decide (sn = name))) ∧ Below w.heap.size w w' := by
  have hB := block_of_cell hc
  have HZ : Hid ((sn.toList == name.toList) = decide (sn = name)) := Lib.hid (by rw [Bool.eq_iff_iff, Lib.bytes_beq_iff, decide_eq_true_eq])
  go_enter Tryd.func68, Tryd.ntmps68
  go_wp2
  go_ret
  exact ⟨by rw [← HZ.out]; rfl, by go_grown⟩
/-- What Find returns. -/
def fndV (l : List Sch) (name : ByteArray) (w : World) (v : Value) : Prop := (fndS name 0 l = -1 ∧ v = .tuple #[agS ⟨#[]⟩ (.slice none 0 0) 0 (.slice none 0 0), .bool false]) ∨
  ∃ (x : Sch) (a1 a2 : Option Addr) (c1 c2 : Nat), 0 ≤ fndS name 0 l ∧ l[(fndS name 0 l).toNat]? = some x ∧ Cs w (.slice a1 x.cols.length c1) x.cols ∧ FsAt w (.slice a2 x.frn.length c2) x.frn ∧ v = .tuple #[agS x.name (.slice a1 x.cols.length c1) x.key (.slice a2 x.frn.length c2), .bool true]
set_option maxRecDepth 20000 in
theorem find_any (l : List Sch) (hl : l.length ≤ 1000000) (s : Value) (name : ByteArray) (w : World) (hs : LsAt w s l) : Calls Tryd.prog 58 #[s, .string name] w fun e w' => ∃ v, e = .returned v ∧ fndV l name w' v ∧ Below w.heap.size w w' := by
  obtain ⟨ad, cap, rfl, hcap⟩ := Nest.form hs
  have hI : ∀ W W' : World, (W.cell? ⟨w.heap.size, 0, none⟩ = some (.string name)) → Below W.heap.size W W' → W'.cell? ⟨w.heap.size, 0, none⟩ = some (.string name) := fun W W' h hb => cell_kept h hb
  have HX := fun (W : World) (h : Below w.heap.size w W) (hc : W.cell? ⟨w.heap.size, 0, none⟩ = some (.string name)) => idx_sch 68 enter_find (.pointer (some ⟨w.heap.size, 0, none⟩)) (fun s : Sch => decide (s.name = name)) _ hI l (fun W s a1 a2 c1 c2 _ hw _ _ => fcl_any s.name name _ s.key _ w.heap.size W rfl rfl hw) hl _ W (hs.below h) hc
  rw [fndS_is] at HX
  unfold fndV
  rcases fndS_ge name l 0 with h0 | ⟨h0, h1⟩
  · rw [h0] at HX
    have HF := Lib.hid h0
    clear hs hI h0
    go_enter Tryd.func58, Tryd.ntmps58
    go_wp2_with (go_at_call 45; ((with_reducible refine (HX _ (by go_grown) (by simp)).mono ?_); rintro e w1 ⟨rfl, hb⟩; (first | (replace hL := bstep hL hb) | (have hL := hb)); clear hb; replace hc := bcell hL))
    refine bodyPost_ret (by simp [results, Tryd.results58, go_sem, hc]; try rfl) rfl ?_
    exact ⟨_, rfl, .inl ⟨HF.out, rfl⟩, (by have hB := bstep (w := w) (by go_grown) hL; have hs := hB.size; go_grown)⟩
  · obtain ⟨g, off, cp, e1, hc0⟩ := ls_get hs (by omega)
    simp only [Value.slice.injEq] at e1
    obtain ⟨rfl, _, rfl⟩ := e1
    obtain ⟨k, hk⟩ : ∃ k : Nat, fndS name 0 l = k := ⟨(fndS name 0 l).toNat, by omega⟩
    have hkl : k < l.length := by omega
    obtain ⟨x, ht⟩ : ∃ t, l[k]? = some t := ⟨_, List.getElem?_eq_getElem hkl⟩
    obtain ⟨a1, c1, a2, c2, q1, q2, z0, z1, z2, z3⟩ := hc0 k x ht
    rw [hk] at HX
    have HF := Lib.hid hk
    have HT := Lib.hid ht
    have HQ1 := Lib.hid q1
    have HQ2 := Lib.hid q2
    have k0 : (0 : Int) ≤ (k : Int) := by omega
    have k1 : (k : Int) < (l.length : Int) := by omega
    obtain ⟨n, hn⟩ : ∃ n, n = l.length := ⟨_, rfl⟩
    have hg := block_of_cell z0
    rw [← hn] at HX k1 ⊢
    clear hs hI h0 h1 hc0 ht q1 q2 hn hk hkl hl hcap
    generalize hm1 : x.cols.length = m1 at z1
    generalize hm2 : x.frn.length = m2 at z3
    have key : ∀ W : World, Below w.heap.size w W → ∃ (y : Sch) (b1 b2 : Option Addr) (e1 e2 : Nat), 0 ≤ fndS name 0 l ∧ l[(fndS name 0 l).toNat]? = some y ∧ Cs W (.slice b1 y.cols.length e1) y.cols ∧ FsAt W (.slice b2 y.frn.length e2) y.frn ∧ Value.tuple #[.agg #[.string x.name, .slice a1 m1 c1, .int .i64 x.key, .slice a2 m2 c2], .bool true] = .tuple #[agS y.name (.slice b1 y.cols.length e1) y.key (.slice b2 y.frn.length e2), .bool true] := fun W hG =>
      ⟨x, a1, a2, c1, c2, by rw [HF.out]; omega, by rw [HF.out]; exact HT.out, HQ1.out.below hG, HQ2.out.below (fun r x hx => hx.below hG) hG, by rw [hm1, hm2]⟩
    clear hm1 hm2
    go_enter Tryd.func58, Tryd.ntmps58
    go_wp2_with (go_at_call 45; (with_reducible refine (HX _ (by go_grown) (by simp)).mono ?_); rintro e w1 ⟨rfl, hL⟩; have hc := bcell hL; have hw1 : Below w.heap.size w w1 := bstep (by go_grown) hL; have y0 := cell_kept z0 hw1; have y1 := cell_kept z1 hw1; have y2 := cell_kept z2 hw1; have y3 := cell_kept z3 hw1; clear z0 z1 z2 z3)
    refine bodyPost_ret (by simp [results, Tryd.results58, go_sem, hc]; try rfl) rfl ?_
    exact ⟨_, rfl, .inr (key _ (by have hB := bstep (w := w) (by go_grown) hL; have hs := hB.size; go_grown)), (by have hB := bstep (w := w) (by go_grown) hL; have hs := hB.size; go_grown)⟩
end Go.Proofs.YtokbipfkpojflaaDoor.Sc
