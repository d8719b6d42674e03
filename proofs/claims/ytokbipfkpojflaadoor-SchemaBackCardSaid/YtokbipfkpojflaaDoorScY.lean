/-
  slices.IndexFunc and slices.ContainsFunc at lists of foreign keys and of schemas (layer 34).
-/
import Derived.Test.YtokbipfkpojflaaDoorScX
set_option linter.unusedSimpArgs false
set_option linter.unusedVariables false
namespace Go.Proofs.YtokbipfkpojflaaDoor.Sc
open Go Go.RowKit Go.ChangeShapes Go.WideShapes Go.Proofs.YtokbipfkpojflaaDoor.Sl Go.Proofs.YtokbipfkpojflaaDoor.Va Go.Lib

theorem ns_get {w : World} {s : Value} {l : List Fr} (h : FsAt w s l) (h0 : l.length ≠ 0) : ∃ g off cap, s = .slice (some ⟨g, off, none⟩) l.length cap ∧ ∀ (i : Nat) (x : Fr), l[i]? = some x → ∃ a1 c1, Ss w (.slice a1 x.cols.length c1) x.cols ∧
    w.cell? ⟨g, off + i * 2, none⟩ = some (.slice a1 x.cols.length c1) ∧ w.cell? ⟨g, off + i * 2 + 1, none⟩ = some (.string x.tab) := by
  obtain ⟨g, off, cap, e, hc⟩ := fs_get h h0
  refine ⟨g, off, cap, e, fun i x hx => ?_⟩
  obtain ⟨a, c, _, h1, h2, h3⟩ := hc i x hx
  exact ⟨a, c, h1, h2, h3⟩
set_option maxRecDepth 20000 in
theorem idx_frn0 (N : Nat) (HE : ∀ (args : Array Value) (w : World), (callFunc N args).run Tryd.prog w = .ok (.enter N args) w) (p : Fr → Bool) (I : World → Prop) (hI : ∀ W W', I W → Below W.heap.size W W' → I W')
    (l : List Fr) (HP : ∀ (W : World) (s : Fr) (a1 : Option Addr) (c1 : Nat), s ∈ l → I W → Ss W (.slice a1 s.cols.length c1) s.cols → Calls Tryd.prog N #[.agg #[.slice a1 s.cols.length c1, .string s.tab]] W fun e w' => e = .returned (.bool (p s)) ∧ Below W.heap.size W w')
    (hl : l.length ≤ 1000000) (s : Value) (w : World) (hs : FsAt w s l) (hw : I w) :
    Calls Tryd.prog 46 #[s, .func (.func N) #[] #[]] w fun e w' => e = .returned (.int .i64 (idxP p 0 l)) ∧ Below w.heap.size w w' := by
  have HI0 := Lib.hid hw
  have HP0 := Lib.hid HP
  have HII := Lib.hid hI
  clear hw HP hI
  by_cases h0 : l.length = 0
  · obtain ⟨ad, cap, rfl, _⟩ := Nest.form hs
    have hn2 : l = [] := List.length_eq_zero_iff.1 h0
    subst hn2
    show Calls Tryd.prog 46 #[.slice ad 0 cap, _] w fun e w' => e = .returned (.int .i64 (-1)) ∧ Below w.heap.size w w'
    go_enter Tryd.func46, Tryd.ntmps46
    go_wp2
    refine wp_loop_rounds 1 ?_
    rw [rounds_succ]
    go_wp2
    go_ret
    exact ⟨rfl, Below.refl _ _⟩
  · obtain ⟨g, off, cap, rfl, hc⟩ := ns_get hs h0
    obtain ⟨n, hnn⟩ : ∃ n, n = l.length := ⟨_, rfl⟩
    obtain ⟨Z, hZ⟩ : ∃ Z, idxP p 0 l = Z := ⟨_, rfl⟩
    have HN := Lib.hid hnn
    have HZ := Lib.hid hZ
    have HC := Lib.hid hc
    rw [← hnn] at h0 hl ⊢
    rw [hZ]
    clear hc hs hnn hZ
    go_enter Tryd.func46, Tryd.ntmps46
    go_wp2
    go_loopw [8] (fun i wr => ∃ k : Nat, k ≤ n ∧ i = .int .i64 k ∧ Hid (idxP p k (l.drop k) = Z) ∧ Below w.heap.size w wr) (fun i _ => n - (intOf i).toNat)
    case atStart => exact ⟨0, Nat.zero_le _, rfl, Lib.hid HZ.out, Below.refl _ _⟩
    case round =>
      obtain ⟨k, hk, rfl, HI, hL⟩ := hrel
      by_cases hlt : k < n
      · obtain ⟨x, ht⟩ : ∃ t, l[k]? = some t := ⟨_, List.getElem?_eq_getElem (by rw [← HN.out]; exact hlt)⟩
        have hst := idxP_step p l k _ ht
        rw [HI.out] at hst
        obtain ⟨a1, c1, e1, z0, z1⟩ := HC.out k x ht
        have d0 := cell_kept z0 hL
        have d1 := cell_kept z1 hL
        have HB := HP0.out wr x a1 c1 (List.mem_of_getElem? ht) (HII.out _ _ HI0.out hL) (e1.below hL)
        have k0 : (0 : Int) ≤ (k : Int) := by omega
        have k1 : (k : Int) < (n : Int) := by omega
        clear ht e1 z0 z1
        generalize p x = px at HB hst
        generalize x.cols.length = q1 at *
        cases px
        · have HS2 : Hid (idxP p (k + 1) (l.drop (k + 1)) = Z) := Lib.hid (by rw [if_neg (by simp)] at hst; exact hst.symm)
          clear hst
          go_wp2_with (with_reducible refine HB.mono ?_; rintro e w1 ⟨rfl, hb⟩; have hL2 := bstep hL hb; clear hb)
          go_roundw
          case rel => exact ⟨k + 1, by omega, by go_num, HS2, hL2⟩
          case measure => simp [intOf]; omega
        · have HS2 : Hid (Z = k) := Lib.hid (by rw [if_pos rfl] at hst; exact hst)
          clear hst
          go_wp2_with (with_reducible refine HB.mono ?_; rintro e w1 ⟨rfl, hb⟩; have hL2 := bstep hL hb; clear hb)
          go_ret
          exact ⟨by rw [HS2.out]; rfl, hL2⟩
      · go_wp2
        go_ret
        exact ⟨by show Ending.returned (.int .i64 (-1)) = _; rw [← HI.out, List.drop_of_length_le (by rw [← HN.out]; omega)]; rfl, hL⟩
theorem has_frn0 (N : Nat) (HE : ∀ (args : Array Value) (w : World), (callFunc N args).run Tryd.prog w = .ok (.enter N args) w) (p : Fr → Bool) (I : World → Prop) (hI : ∀ W W', I W → Below W.heap.size W W' → I W')
    (l : List Fr) (HP : ∀ (W : World) (s : Fr) (a1 : Option Addr) (c1 : Nat), s ∈ l → I W → Ss W (.slice a1 s.cols.length c1) s.cols → Calls Tryd.prog N #[.agg #[.slice a1 s.cols.length c1, .string s.tab]] W fun e w' => e = .returned (.bool (p s)) ∧ Below W.heap.size W w')
    (hl : l.length ≤ 1000000) (s : Value) (w : World) (hs : FsAt w s l) (hw : I w) :
    Calls Tryd.prog 18 #[s, .func (.func N) #[] #[]] w fun e w' => e = .returned (.bool (l.any p)) ∧ Below w.heap.size w w' := by
  have HC := idx_frn0 N HE  p I hI l HP hl s w hs hw
  rw [← idxP_pos]
  obtain ⟨ad, cap, rfl, _⟩ := Nest.form hs
  generalize idxP p 0 l = z at HC ⊢
  clear hs hw HP hI
  go_enter Tryd.func18, Tryd.ntmps18
  go_wp2_with (go_at_call 46; (with_reducible refine HC.mono ?_); rintro e w1 ⟨rfl, hL⟩)
  go_ret
  exact ⟨rfl, hL⟩
set_option maxRecDepth 20000 in
theorem idx_frn1 (N : Nat) (HE : ∀ (args : Array Value) (w : World), (callFunc N args).run Tryd.prog w = .ok (.enter N args) w) (cp0 : Value) (p : Fr → Bool) (I : World → Prop) (hI : ∀ W W', I W → Below W.heap.size W W' → I W')
    (l : List Fr) (HP : ∀ (W : World) (s : Fr) (a1 : Option Addr) (c1 : Nat), s ∈ l → I W → Ss W (.slice a1 s.cols.length c1) s.cols → Calls Tryd.prog N #[.agg #[.slice a1 s.cols.length c1, .string s.tab], cp0] W fun e w' => e = .returned (.bool (p s)) ∧ Below W.heap.size W w')
    (hl : l.length ≤ 1000000) (s : Value) (w : World) (hs : FsAt w s l) (hw : I w) :
    Calls Tryd.prog 46 #[s, .func (.func N) #[] #[cp0]] w fun e w' => e = .returned (.int .i64 (idxP p 0 l)) ∧ Below w.heap.size w w' := by
  have HI0 := Lib.hid hw
  have HP0 := Lib.hid HP
  have HII := Lib.hid hI
  clear hw HP hI
  by_cases h0 : l.length = 0
  · obtain ⟨ad, cap, rfl, _⟩ := Nest.form hs
    have hn2 : l = [] := List.length_eq_zero_iff.1 h0
    subst hn2
    show Calls Tryd.prog 46 #[.slice ad 0 cap, _] w fun e w' => e = .returned (.int .i64 (-1)) ∧ Below w.heap.size w w'
    go_enter Tryd.func46, Tryd.ntmps46
    go_wp2
    refine wp_loop_rounds 1 ?_
    rw [rounds_succ]
    go_wp2
    go_ret
    exact ⟨rfl, Below.refl _ _⟩
  · obtain ⟨g, off, cap, rfl, hc⟩ := ns_get hs h0
    obtain ⟨n, hnn⟩ : ∃ n, n = l.length := ⟨_, rfl⟩
    obtain ⟨Z, hZ⟩ : ∃ Z, idxP p 0 l = Z := ⟨_, rfl⟩
    have HN := Lib.hid hnn
    have HZ := Lib.hid hZ
    have HC := Lib.hid hc
    rw [← hnn] at h0 hl ⊢
    rw [hZ]
    clear hc hs hnn hZ
    go_enter Tryd.func46, Tryd.ntmps46
    go_wp2
    go_loopw [8] (fun i wr => ∃ k : Nat, k ≤ n ∧ i = .int .i64 k ∧ Hid (idxP p k (l.drop k) = Z) ∧ Below w.heap.size w wr) (fun i _ => n - (intOf i).toNat)
    case atStart => exact ⟨0, Nat.zero_le _, rfl, Lib.hid HZ.out, Below.refl _ _⟩
    case round =>
      obtain ⟨k, hk, rfl, HI, hL⟩ := hrel
      by_cases hlt : k < n
      · obtain ⟨x, ht⟩ : ∃ t, l[k]? = some t := ⟨_, List.getElem?_eq_getElem (by rw [← HN.out]; exact hlt)⟩
        have hst := idxP_step p l k _ ht
        rw [HI.out] at hst
        obtain ⟨a1, c1, e1, z0, z1⟩ := HC.out k x ht
        have d0 := cell_kept z0 hL
        have d1 := cell_kept z1 hL
        have HB := HP0.out wr x a1 c1 (List.mem_of_getElem? ht) (HII.out _ _ HI0.out hL) (e1.below hL)
        have k0 : (0 : Int) ≤ (k : Int) := by omega
        have k1 : (k : Int) < (n : Int) := by omega
        clear ht e1 z0 z1
        generalize p x = px at HB hst
        generalize x.cols.length = q1 at *
        cases px
        · have HS2 : Hid (idxP p (k + 1) (l.drop (k + 1)) = Z) := Lib.hid (by rw [if_neg (by simp)] at hst; exact hst.symm)
          clear hst
          go_wp2_with (with_reducible refine HB.mono ?_; rintro e w1 ⟨rfl, hb⟩; have hL2 := bstep hL hb; clear hb)
          go_roundw
          case rel => exact ⟨k + 1, by omega, by go_num, HS2, hL2⟩
          case measure => simp [intOf]; omega
        · have HS2 : Hid (Z = k) := Lib.hid (by rw [if_pos rfl] at hst; exact hst)
          clear hst
          go_wp2_with (with_reducible refine HB.mono ?_; rintro e w1 ⟨rfl, hb⟩; have hL2 := bstep hL hb; clear hb)
          go_ret
          exact ⟨by rw [HS2.out]; rfl, hL2⟩
      · go_wp2
        go_ret
        exact ⟨by show Ending.returned (.int .i64 (-1)) = _; rw [← HI.out, List.drop_of_length_le (by rw [← HN.out]; omega)]; rfl, hL⟩
theorem has_frn1 (N : Nat) (HE : ∀ (args : Array Value) (w : World), (callFunc N args).run Tryd.prog w = .ok (.enter N args) w) (cp0 : Value) (p : Fr → Bool) (I : World → Prop) (hI : ∀ W W', I W → Below W.heap.size W W' → I W')
    (l : List Fr) (HP : ∀ (W : World) (s : Fr) (a1 : Option Addr) (c1 : Nat), s ∈ l → I W → Ss W (.slice a1 s.cols.length c1) s.cols → Calls Tryd.prog N #[.agg #[.slice a1 s.cols.length c1, .string s.tab], cp0] W fun e w' => e = .returned (.bool (p s)) ∧ Below W.heap.size W w')
    (hl : l.length ≤ 1000000) (s : Value) (w : World) (hs : FsAt w s l) (hw : I w) :
    Calls Tryd.prog 18 #[s, .func (.func N) #[] #[cp0]] w fun e w' => e = .returned (.bool (l.any p)) ∧ Below w.heap.size w w' := by
  have HC := idx_frn1 N HE cp0 p I hI l HP hl s w hs hw
  rw [← idxP_pos]
  obtain ⟨ad, cap, rfl, _⟩ := Nest.form hs
  generalize idxP p 0 l = z at HC ⊢
  clear hs hw HP hI
  go_enter Tryd.func18, Tryd.ntmps18
  go_wp2_with (go_at_call 46; (with_reducible refine HC.mono ?_); rintro e w1 ⟨rfl, hL⟩)
  go_ret
  exact ⟨rfl, hL⟩
set_option maxRecDepth 20000 in
theorem idx_frn2 (N : Nat) (HE : ∀ (args : Array Value) (w : World), (callFunc N args).run Tryd.prog w = .ok (.enter N args) w) (cp0 cp1 : Value) (p : Fr → Bool) (I : World → Prop) (hI : ∀ W W', I W → Below W.heap.size W W' → I W')
    (l : List Fr) (HP : ∀ (W : World) (s : Fr) (a1 : Option Addr) (c1 : Nat), s ∈ l → I W → Ss W (.slice a1 s.cols.length c1) s.cols → Calls Tryd.prog N #[.agg #[.slice a1 s.cols.length c1, .string s.tab], cp0, cp1] W fun e w' => e = .returned (.bool (p s)) ∧ Below W.heap.size W w')
    (hl : l.length ≤ 1000000) (s : Value) (w : World) (hs : FsAt w s l) (hw : I w) :
    Calls Tryd.prog 46 #[s, .func (.func N) #[] #[cp0, cp1]] w fun e w' => e = .returned (.int .i64 (idxP p 0 l)) ∧ Below w.heap.size w w' := by
  have HI0 := Lib.hid hw
  have HP0 := Lib.hid HP
  have HII := Lib.hid hI
  clear hw HP hI
  by_cases h0 : l.length = 0
  · obtain ⟨ad, cap, rfl, _⟩ := Nest.form hs
    have hn2 : l = [] := List.length_eq_zero_iff.1 h0
    subst hn2
    show Calls Tryd.prog 46 #[.slice ad 0 cap, _] w fun e w' => e = .returned (.int .i64 (-1)) ∧ Below w.heap.size w w'
    go_enter Tryd.func46, Tryd.ntmps46
    go_wp2
    refine wp_loop_rounds 1 ?_
    rw [rounds_succ]
    go_wp2
    go_ret
    exact ⟨rfl, Below.refl _ _⟩
  · obtain ⟨g, off, cap, rfl, hc⟩ := ns_get hs h0
    obtain ⟨n, hnn⟩ : ∃ n, n = l.length := ⟨_, rfl⟩
    obtain ⟨Z, hZ⟩ : ∃ Z, idxP p 0 l = Z := ⟨_, rfl⟩
    have HN := Lib.hid hnn
    have HZ := Lib.hid hZ
    have HC := Lib.hid hc
    rw [← hnn] at h0 hl ⊢
    rw [hZ]
    clear hc hs hnn hZ
    go_enter Tryd.func46, Tryd.ntmps46
    go_wp2
    go_loopw [8] (fun i wr => ∃ k : Nat, k ≤ n ∧ i = .int .i64 k ∧ Hid (idxP p k (l.drop k) = Z) ∧ Below w.heap.size w wr) (fun i _ => n - (intOf i).toNat)
    case atStart => exact ⟨0, Nat.zero_le _, rfl, Lib.hid HZ.out, Below.refl _ _⟩
    case round =>
      obtain ⟨k, hk, rfl, HI, hL⟩ := hrel
      by_cases hlt : k < n
      · obtain ⟨x, ht⟩ : ∃ t, l[k]? = some t := ⟨_, List.getElem?_eq_getElem (by rw [← HN.out]; exact hlt)⟩
        have hst := idxP_step p l k _ ht
        rw [HI.out] at hst
        obtain ⟨a1, c1, e1, z0, z1⟩ := HC.out k x ht
        have d0 := cell_kept z0 hL
        have d1 := cell_kept z1 hL
        have HB := HP0.out wr x a1 c1 (List.mem_of_getElem? ht) (HII.out _ _ HI0.out hL) (e1.below hL)
        have k0 : (0 : Int) ≤ (k : Int) := by omega
        have k1 : (k : Int) < (n : Int) := by omega
        clear ht e1 z0 z1
        generalize p x = px at HB hst
        generalize x.cols.length = q1 at *
        cases px
        · have HS2 : Hid (idxP p (k + 1) (l.drop (k + 1)) = Z) := Lib.hid (by rw [if_neg (by simp)] at hst; exact hst.symm)
          clear hst
          go_wp2_with (with_reducible refine HB.mono ?_; rintro e w1 ⟨rfl, hb⟩; have hL2 := bstep hL hb; clear hb)
          go_roundw
          case rel => exact ⟨k + 1, by omega, by go_num, HS2, hL2⟩
          case measure => simp [intOf]; omega
        · have HS2 : Hid (Z = k) := Lib.hid (by rw [if_pos rfl] at hst; exact hst)
          clear hst
          go_wp2_with (with_reducible refine HB.mono ?_; rintro e w1 ⟨rfl, hb⟩; have hL2 := bstep hL hb; clear hb)
          go_ret
          exact ⟨by rw [HS2.out]; rfl, hL2⟩
      · go_wp2
        go_ret
        exact ⟨by show Ending.returned (.int .i64 (-1)) = _; rw [← HI.out, List.drop_of_length_le (by rw [← HN.out]; omega)]; rfl, hL⟩
theorem has_frn2 (N : Nat) (HE : ∀ (args : Array Value) (w : World), (callFunc N args).run Tryd.prog w = .ok (.enter N args) w) (cp0 cp1 : Value) (p : Fr → Bool) (I : World → Prop) (hI : ∀ W W', I W → Below W.heap.size W W' → I W')
    (l : List Fr) (HP : ∀ (W : World) (s : Fr) (a1 : Option Addr) (c1 : Nat), s ∈ l → I W → Ss W (.slice a1 s.cols.length c1) s.cols → Calls Tryd.prog N #[.agg #[.slice a1 s.cols.length c1, .string s.tab], cp0, cp1] W fun e w' => e = .returned (.bool (p s)) ∧ Below W.heap.size W w')
    (hl : l.length ≤ 1000000) (s : Value) (w : World) (hs : FsAt w s l) (hw : I w) :
    Calls Tryd.prog 18 #[s, .func (.func N) #[] #[cp0, cp1]] w fun e w' => e = .returned (.bool (l.any p)) ∧ Below w.heap.size w w' := by
  have HC := idx_frn2 N HE cp0 cp1 p I hI l HP hl s w hs hw
  rw [← idxP_pos]
  obtain ⟨ad, cap, rfl, _⟩ := Nest.form hs
  generalize idxP p 0 l = z at HC ⊢
  clear hs hw HP hI
  go_enter Tryd.func18, Tryd.ntmps18
  go_wp2_with (go_at_call 46; (with_reducible refine HC.mono ?_); rintro e w1 ⟨rfl, hL⟩)
  go_ret
  exact ⟨rfl, hL⟩
set_option maxRecDepth 20000 in
theorem idx_sch0 (N : Nat) (HE : ∀ (args : Array Value) (w : World), (callFunc N args).run Tryd.prog w = .ok (.enter N args) w) (p : Sch → Bool) (I : World → Prop) (hI : ∀ W W', I W → Below W.heap.size W W' → I W')
    (l : List Sch) (HP : ∀ (W : World) (s : Sch) (a1 a2 : Option Addr) (c1 c2 : Nat), s ∈ l → I W → Cs W (.slice a1 s.cols.length c1) s.cols → FsAt W (.slice a2 s.frn.length c2) s.frn → Calls Tryd.prog N #[agS s.name (.slice a1 s.cols.length c1) s.key (.slice a2 s.frn.length c2)] W fun e w' => e = .returned (.bool (p s)) ∧ Below W.heap.size W w')
    (hl : l.length ≤ 1000000) (s : Value) (w : World) (hs : LsAt w s l) (hw : I w) :
    Calls Tryd.prog 45 #[s, .func (.func N) #[] #[]] w fun e w' => e = .returned (.int .i64 (idxP p 0 l)) ∧ Below w.heap.size w w' := by
  have HI0 := Lib.hid hw
  have HP0 := Lib.hid HP
  have HII := Lib.hid hI
  clear hw HP hI
  by_cases h0 : l.length = 0
  · obtain ⟨ad, cap, rfl, _⟩ := Nest.form hs
    have hn2 : l = [] := List.length_eq_zero_iff.1 h0
    subst hn2
    show Calls Tryd.prog 45 #[.slice ad 0 cap, _] w fun e w' => e = .returned (.int .i64 (-1)) ∧ Below w.heap.size w w'
    go_enter Tryd.func45, Tryd.ntmps45
    go_wp2
    refine wp_loop_rounds 1 ?_
    rw [rounds_succ]
    go_wp2
    go_ret
    exact ⟨rfl, Below.refl _ _⟩
  · obtain ⟨g, off, cap, rfl, hc⟩ := ls_get hs h0
    obtain ⟨n, hnn⟩ : ∃ n, n = l.length := ⟨_, rfl⟩
    obtain ⟨Z, hZ⟩ : ∃ Z, idxP p 0 l = Z := ⟨_, rfl⟩
    have HN := Lib.hid hnn
    have HZ := Lib.hid hZ
    have HC := Lib.hid hc
    rw [← hnn] at h0 hl ⊢
    rw [hZ]
    clear hc hs hnn hZ
    go_enter Tryd.func45, Tryd.ntmps45
    go_wp2
    go_loopw [8] (fun i wr => ∃ k : Nat, k ≤ n ∧ i = .int .i64 k ∧ Hid (idxP p k (l.drop k) = Z) ∧ Below w.heap.size w wr) (fun i _ => n - (intOf i).toNat)
    case atStart => exact ⟨0, Nat.zero_le _, rfl, Lib.hid HZ.out, Below.refl _ _⟩
    case round =>
      obtain ⟨k, hk, rfl, HI, hL⟩ := hrel
      by_cases hlt : k < n
      · obtain ⟨x, ht⟩ : ∃ t, l[k]? = some t := ⟨_, List.getElem?_eq_getElem (by rw [← HN.out]; exact hlt)⟩
        have hst := idxP_step p l k _ ht
        rw [HI.out] at hst
        obtain ⟨a1, c1, a2, c2, e1, e2, z0, z1, z2, z3⟩ := HC.out k x ht
        have d0 := cell_kept z0 hL
        have d1 := cell_kept z1 hL
        have d2 := cell_kept z2 hL
        have d3 := cell_kept z3 hL
        have HB := HP0.out wr x a1 a2 c1 c2 (List.mem_of_getElem? ht) (HII.out _ _ HI0.out hL) (e1.below hL) (e2.below (fun r x hx => hx.below hL) hL)
        have k0 : (0 : Int) ≤ (k : Int) := by omega
        have k1 : (k : Int) < (n : Int) := by omega
        clear ht e1 e2 z0 z1 z2 z3
        generalize p x = px at HB hst
        generalize x.cols.length = q1 at *
        generalize x.frn.length = q2 at *
        cases px
        · have HS2 : Hid (idxP p (k + 1) (l.drop (k + 1)) = Z) := Lib.hid (by rw [if_neg (by simp)] at hst; exact hst.symm)
          clear hst
          go_wp2_with (with_reducible refine HB.mono ?_; rintro e w1 ⟨rfl, hb⟩; have hL2 := bstep hL hb; clear hb)
          go_roundw
          case rel => exact ⟨k + 1, by omega, by go_num, HS2, hL2⟩
          case measure => simp [intOf]; omega
        · have HS2 : Hid (Z = k) := Lib.hid (by rw [if_pos rfl] at hst; exact hst)
          clear hst
          go_wp2_with (with_reducible refine HB.mono ?_; rintro e w1 ⟨rfl, hb⟩; have hL2 := bstep hL hb; clear hb)
          go_ret
          exact ⟨by rw [HS2.out]; rfl, hL2⟩
      · go_wp2
        go_ret
        exact ⟨by show Ending.returned (.int .i64 (-1)) = _; rw [← HI.out, List.drop_of_length_le (by rw [← HN.out]; omega)]; rfl, hL⟩
theorem has_sch0 (N : Nat) (HE : ∀ (args : Array Value) (w : World), (callFunc N args).run Tryd.prog w = .ok (.enter N args) w) (p : Sch → Bool) (I : World → Prop) (hI : ∀ W W', I W → Below W.heap.size W W' → I W')
    (l : List Sch) (HP : ∀ (W : World) (s : Sch) (a1 a2 : Option Addr) (c1 c2 : Nat), s ∈ l → I W → Cs W (.slice a1 s.cols.length c1) s.cols → FsAt W (.slice a2 s.frn.length c2) s.frn → Calls Tryd.prog N #[agS s.name (.slice a1 s.cols.length c1) s.key (.slice a2 s.frn.length c2)] W fun e w' => e = .returned (.bool (p s)) ∧ Below W.heap.size W w')
    (hl : l.length ≤ 1000000) (s : Value) (w : World) (hs : LsAt w s l) (hw : I w) :
    Calls Tryd.prog 16 #[s, .func (.func N) #[] #[]] w fun e w' => e = .returned (.bool (l.any p)) ∧ Below w.heap.size w w' := by
  have HC := idx_sch0 N HE  p I hI l HP hl s w hs hw
  rw [← idxP_pos]
  obtain ⟨ad, cap, rfl, _⟩ := Nest.form hs
  generalize idxP p 0 l = z at HC ⊢
  clear hs hw HP hI
  go_enter Tryd.func16, Tryd.ntmps16
  go_wp2_with (go_at_call 45; (with_reducible refine HC.mono ?_); rintro e w1 ⟨rfl, hL⟩)
  go_ret
  exact ⟨rfl, hL⟩
theorem has_sch1 (N : Nat) (HE : ∀ (args : Array Value) (w : World), (callFunc N args).run Tryd.prog w = .ok (.enter N args) w) (cp0 : Value) (p : Sch → Bool) (I : World → Prop) (hI : ∀ W W', I W → Below W.heap.size W W' → I W')
    (l : List Sch) (HP : ∀ (W : World) (s : Sch) (a1 a2 : Option Addr) (c1 c2 : Nat), s ∈ l → I W → Cs W (.slice a1 s.cols.length c1) s.cols → FsAt W (.slice a2 s.frn.length c2) s.frn → Calls Tryd.prog N #[agS s.name (.slice a1 s.cols.length c1) s.key (.slice a2 s.frn.length c2), cp0] W fun e w' => e = .returned (.bool (p s)) ∧ Below W.heap.size W w')
    (hl : l.length ≤ 1000000) (s : Value) (w : World) (hs : LsAt w s l) (hw : I w) :
    Calls Tryd.prog 16 #[s, .func (.func N) #[] #[cp0]] w fun e w' => e = .returned (.bool (l.any p)) ∧ Below w.heap.size w w' := by
  have HC := idx_sch N HE cp0 p I hI l HP hl s w hs hw
  rw [← idxP_pos]
  obtain ⟨ad, cap, rfl, _⟩ := Nest.form hs
  generalize idxP p 0 l = z at HC ⊢
  clear hs hw HP hI
  go_enter Tryd.func16, Tryd.ntmps16
  go_wp2_with (go_at_call 45; (with_reducible refine HC.mono ?_); rintro e w1 ⟨rfl, hL⟩)
  go_ret
  exact ⟨rfl, hL⟩
end Go.Proofs.YtokbipfkpojflaaDoor.Sc
