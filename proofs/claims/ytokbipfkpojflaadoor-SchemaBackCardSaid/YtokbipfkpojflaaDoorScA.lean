/-
  The walk of All (layer 34).
-/
import Derived.Test.YtokbipfkpojflaaDoorScF
set_option linter.unusedSimpArgs false
set_option linter.unusedVariables false
namespace Go.Proofs.YtokbipfkpojflaaDoor.Sc
open Go Go.RowKit Go.ChangeShapes Go.WideShapes Go.Proofs.YtokbipfkpojflaaDoor.Sl Go.Proofs.YtokbipfkpojflaaDoor.Va Go.Lib

theorem find_no (l : List Sch) (hl : l.length ≤ 1000000) (s : Value) (name : ByteArray) (w : World) (hs : LsAt w s l) (h : fndS name 0 l < 0) : Calls Tryd.prog 58 #[s, .string name] w fun e w' => e = .returned (.tuple #[.agg #[.string ⟨#[]⟩, .slice none 0 0, .int .i64 0, .slice none 0 0], .bool false]) ∧ Below w.heap.size w w' := by
  refine (find_any l hl s name w hs).mono ?_
  rintro e w' ⟨v, rfl, hv | ⟨x, a1, a2, c1, c2, h0, _⟩, hb⟩
  · exact ⟨by rw [hv.2], hb⟩
  · omega
theorem find_yes (l : List Sch) (hl : l.length ≤ 1000000) (s : Value) (name : ByteArray) (w : World) (hs : LsAt w s l) (x : Sch) (k : Nat) (h : fndS name 0 l = k) (hx : l[k]? = some x) : Calls Tryd.prog 58 #[s, .string name] w fun e w' => ∃ (a1 a2 : Option Addr) (c1 c2 : Nat), e = .returned (.tuple #[.agg #[.string x.name, .slice a1 x.cols.length c1, .int .i64 x.key, .slice a2 x.frn.length c2], .bool true]) ∧ Cs w' (.slice a1 x.cols.length c1) x.cols ∧ FsAt w' (.slice a2 x.frn.length c2) x.frn ∧ Below w.heap.size w w' := by
  refine (find_any l hl s name w hs).mono ?_
  rintro e w' ⟨v, rfl, hv | ⟨y, a1, a2, c1, c2, h0, hy, hcs, hfs, rfl⟩, hb⟩
  · omega
  · rw [h, Int.toNat_natCast, hx] at hy
    obtain rfl := Option.some.inj hy
    exact ⟨a1, a2, c1, c2, rfl, hcs, hfs, hb⟩
theorem fltA_step (all : List Sch) (i : Nat) (s : Sch) (h : all[i]? = some s) : fltA all i (all.drop i) = if vldS s = false then some (s.name, 1) else if 0 ≤ fndS s.name 0 (all.take i) then some (s.name, 8) else fltA all (i + 1) (all.drop (i + 1)) := by
  have hk : i < all.length := (List.getElem?_eq_some_iff.1 h).1
  rw [List.drop_eq_getElem_cons hk, fltA, (List.getElem?_eq_some_iff.1 h).2]
theorem vld_frn {s : Sch} (h : vldS s = true) {f : Fr} (hf : f ∈ s.frn) : (∀ c ∈ f.cols, 0 ≤ idxC c 0 s.cols) ∧ f.cols.length ≤ 8 ∧ s.cols.length ≤ 8 := by
  unfold vldS at h
  simp only [Bool.and_eq_true, decide_eq_true_eq, List.all_eq_true] at h
  have h1 := h.2 f hf
  unfold frB at h1
  simp only [Bool.and_eq_true, decide_eq_true_eq, List.all_eq_true] at h1
  exact ⟨h1.2, h1.1.1.2, h.1.1.1.1.1.1.2⟩
theorem vld_key {s : Sch} (h : vldS s = true) : 1 ≤ s.key ∧ s.key ≤ s.cols.length ∧ s.cols.length ≤ 8 ∧ s.frn.length ≤ 8 ∧ 1 ≤ s.cols.length := by
  unfold vldS at h
  simp only [Bool.and_eq_true, decide_eq_true_eq] at h
  exact ⟨h.1.1.1.1.1.2, h.1.1.1.1.2, h.1.1.1.1.1.1.2, h.1.1.1.2, h.1.1.1.1.1.1.1.2⟩
theorem fits_any (s t : Sch) (f : Fr) (a1 a2 a3 a4 a5 : Option Addr) (c1 c2 c3 c4 c5 : Nat) (w : World) (hs : vldS s = true) (ht : vldS t = true) (hf : f ∈ s.frn)
    (h1 : Cs w (.slice a1 s.cols.length c1) s.cols) (h3 : Cs w (.slice a3 t.cols.length c3) t.cols) (h5 : Ss w (.slice a5 f.cols.length c5) f.cols) :
    Calls Tryd.prog 59 #[agS s.name (.slice a1 s.cols.length c1) s.key (.slice a2 s.frn.length c2), .agg #[.slice a5 f.cols.length c5, .string f.tab], agS t.name (.slice a3 t.cols.length c3) t.key (.slice a4 t.frn.length c4)] w fun e w' => e = .returned (.bool (fitS s f t)) ∧ Below w.heap.size w w' := by
  obtain ⟨v1, v2, v3⟩ := vld_frn hs hf
  obtain ⟨v4, v5, v6, _⟩ := vld_key ht
  unfold fitS
  by_cases h : (f.cols.length : Int) = t.key
  · rw [decide_eq_true h, Bool.true_and, ← h]
    exact fits_go s.name t.name f.tab s.key a1 a2 a3 a4 a5 _ _ _ _ _ c1 c2 c3 c4 c5 w s.cols t.cols f.cols rfl rfl rfl h1 h3 h5 (by omega) (by omega) (by omega) v1
  · rw [decide_eq_false h]
    exact fits_len s.name t.name f.tab s.key t.key a1 a2 a3 a4 a5 _ _ _ _ _ c1 c2 c3 c4 c5 w h
theorem fits_m (s t : Sch) (f : Fr) (b : Bool) (m1 m2 q : Nat) (hb : fitS s f t = b) (e1 : m1 = s.cols.length) (e2 : m2 = s.frn.length) (e3 : q = f.cols.length) (a1 a2 a3 a4 a5 : Option Addr) (c1 c2 c3 c4 c5 : Nat) (w0 w : World) (hw : Below w0.heap.size w0 w) (hs : vldS s = true) (ht : vldS t = true) (hf : f ∈ s.frn)
    (h1 : Cs w0 (.slice a1 s.cols.length c1) s.cols) (h5 : Ss w0 (.slice a5 f.cols.length c5) f.cols) (h3 : Cs w (.slice a3 t.cols.length c3) t.cols) :
    Calls Tryd.prog 59 #[.agg #[.string s.name, .slice a1 m1 c1, .int .i64 s.key, .slice a2 m2 c2], .agg #[.slice a5 q c5, .string f.tab], .agg #[.string t.name, .slice a3 t.cols.length c3, .int .i64 t.key, .slice a4 t.frn.length c4]] w fun e w' => e = .returned (.bool b) ∧ Below w.heap.size w w' := by
  subst hb e1 e2 e3
  exact fits_any s t f a1 a2 a3 a4 a5 c1 c2 c3 c4 c5 w hs ht hf (h1.below hw) h3 (h5.below hw)
theorem fltG_step (all : List Sch) (l : List Sch) (i : Nat) (s : Sch) (h : l[i]? = some s) : fltG all (l.drop i) = match fltF all s s.frn with | some x => some x | none => fltG all (l.drop (i + 1)) := by
  have hk : i < l.length := (List.getElem?_eq_some_iff.1 h).1
  rw [List.drop_eq_getElem_cons hk, fltG, (List.getElem?_eq_some_iff.1 h).2]
  cases fltF all s s.frn <;> rfl
theorem fltF_step (all : List Sch) (s : Sch) (l : List Fr) (i : Nat) (f : Fr) (h : l[i]? = some f) : fltF all s (l.drop i) = if fndS f.tab 0 all < 0 then some (f.tab, 7) else if fitS s f ((all[(fndS f.tab 0 all).toNat]?).getD default) = false then some (f.tab, 13) else fltF all s (l.drop (i + 1)) := by
  have hk : i < l.length := (List.getElem?_eq_some_iff.1 h).1
  rw [List.drop_eq_getElem_cons hk, fltF, (List.getElem?_eq_some_iff.1 h).2]
/-- What All returns of the foreign keys that are left. -/
def rstG (l : List Sch) (o : Option (ByteArray × Int)) : ByteArray × Int := match o with | some x => x | none => (⟨#[]⟩, 0)
def rstF (l : List Sch) (o : Option (ByteArray × Int)) (m : List Sch) : ByteArray × Int := match o with | some x => x | none => rstG l (fltG l m)
theorem rst_step (l : List Sch) (j : Nat) (s : Sch) (h : l[j]? = some s) : rstG l (fltG l (l.drop j)) = rstF l (fltF l s s.frn) (l.drop (j + 1)) := by
  rw [fltG_step l l j s h]
  unfold rstF
  cases fltF l s s.frn <;> rfl
theorem take_all {α : Type} (p : α → Bool) (l : List α) (k : Nat) (x : α) (h : l[k]? = some x) (h1 : ∀ s ∈ l.take k, p s = true) (h2 : p x = true) : ∀ s ∈ l.take (k + 1), p s = true := by
  intro s hs
  rw [List.take_add_one, h] at hs
  rcases List.mem_append.1 hs with hs | hs
  · exact h1 s hs
  · simp at hs; rw [hs]; exact h2
theorem Kp.set4 {w wa : World} {cs : List (Nat × Nat × Value)} (h : Kp w cs wa) (hlt : ∀ c ∈ cs, c.1 < w.heap.size) (P o : Nat) (v : Value) (hP : w.heap.size ≤ P) : Kp w cs (wa.setCell ⟨P, o, none⟩ v) := by
  refine ⟨?_, fun c hc => ?_⟩
  · have := h.1; go_grown
  · rw [World.cell?_setCell_far _ _ _ _ (by have := hlt c hc; simp; omega)]
    exact h.2 c hc
theorem Kp.set44 {w wa : World} {cs : List (Nat × Nat × Value)} (h : Kp w cs wa) (hlt : ∀ c ∈ cs, c.1 < w.heap.size) (P : Nat) (v0 v1 v2 v3 : Value) (hP : w.heap.size ≤ P) : Kp w cs ((((wa.setCell ⟨P, 0, none⟩ v0).setCell ⟨P, 1, none⟩ v1).setCell ⟨P, 2, none⟩ v2).setCell ⟨P, 3, none⟩ v3) :=
  Kp.set4 (Kp.set4 (Kp.set4 (Kp.set4 h hlt P 0 v0 hP) hlt P 1 v1 hP) hlt P 2 v2 hP) hlt P 3 v3 hP
set_option maxRecDepth 20000 in
theorem all_many (a : Option Addr) (n c : Nat) (w : World) (h : (8 : Int) < (n : Int)) : Calls Tryd.prog 41 #[.slice a n c] w fun e w' => e = .returned (.tuple #[.string ⟨#[]⟩, .int .i64 5]) ∧ Below w.heap.size w w' := by
  go_enter Tryd.func41, Tryd.ntmps41
  go_wp2
  go_ret2
  exact ⟨rfl, Below.refl _ _⟩
set_option maxRecDepth 20000 in
set_option maxHeartbeats 2000000 in
theorem all_go (l : List Sch) (a : Option Addr) (n c : Nat) (w : World) (hn : n = l.length) (h8 : (n : Int) ≤ 8) (hs : LsAt w (.slice a n c) l) :
    Calls Tryd.prog 41 #[.slice a n c] w fun e w' => e = .returned (.tuple #[.string (allS l).1, .int .i64 (allS l).2]) ∧ Below w.heap.size w w' := by
  have HN := Lib.hid hn
  have HV := Lib.hid hs
  obtain ⟨Z, hZ⟩ : ∃ Z, allS l = Z := ⟨_, rfl⟩
  have HZ := Lib.hid hZ
  rw [hZ]
  have hcap : n ≤ c := by
    obtain ⟨ad, cap, e, h⟩ := Nest.form hs
    simp only [Value.slice.injEq] at e
    omega
  have HFI := fun (i : Nat) (hi : i ≤ l.length) (W : World) (h : Below w.heap.size w W) => Nest.take i (hs.below h) hi
  clear hn hs hZ
  go_enter Tryd.func41, Tryd.ntmps41
  go_wp2
  go_loopw [4, 5, 6, 7, 19] (fun _ _ _ _ i wr => ∃ k : Nat, k ≤ n ∧ i = .int .i64 k ∧ Hid (allS l = match fltA l k (l.drop k) with | some x => x | none => rstG l (fltG l l)) ∧ Hid (∀ s ∈ l.take k, vldS s = true) ∧ Below w.heap.size w wr) (fun _ _ _ _ i _ => n - (intOf i).toNat)
  case atStart => exact ⟨0, Nat.zero_le _, rfl, Lib.hid (by unfold allS; rw [if_neg (by have := HN.out; omega)]; rfl), Lib.hid (by intro s hs; simp at hs), Below.refl _ _⟩
  case round =>
    obtain ⟨k, hk, rfl, HI, HAV, hL⟩ := hrel
    by_cases hlt : k < n
    · obtain ⟨g, off, cp, e1, hc⟩ := ls_get (HN.out ▸ HV.out) (by rw [← HN.out]; omega)
      simp only [Value.slice.injEq] at e1
      obtain ⟨rfl, _, rfl⟩ := e1
      obtain ⟨x, ht⟩ : ∃ t, l[k]? = some t := ⟨_, List.getElem?_eq_getElem (by rw [← HN.out]; exact hlt)⟩
      obtain ⟨a1, c1, a2, c2, q1, q2, z0, z1, z2, z3⟩ := hc k x ht
      have y0 := cell_kept z0 hL
      have y1 := cell_kept z1 hL
      have y2 := cell_kept z2 hL
      have y3 := cell_kept z3 hL
      have HVA := fun W (h : Below w.heap.size w W) => valid_any x a1 a2 c1 c2 W (q1.below h) (q2.below (fun r x hx => hx.below h) h)
      have hst := fltA_step l k x ht
      have hI := HI.out
      rw [hst] at hI
      have k0 : (0 : Int) ≤ (k : Int) := by omega
      have k1 : (k : Int) < (n : Int) := by omega
      have k2 : (k : Int) ≤ (c : Int) := by omega
      clear q1 q2 z0 z1 z2 z3 hc hst HI
      obtain ⟨sn, scl, key, sfl⟩ := x
      dsimp only at y0 y1 y2 y3 HVA hI
      generalize scl.length = m1 at *
      generalize sfl.length = m2 at *
      cases hv : vldS ⟨sn, scl, key, sfl⟩
      · rw [if_pos hv] at hI
        rw [hv] at HVA
        have HS := Lib.hid hI
        clear hI hv
        go_wp2_with (go_at_call 8; with_reducible refine (HVA _ (hL.alloc hL.size _)).mono ?_; rintro e w1 ⟨rfl, hb⟩; have p0 : w1.cell? ⟨wr.heap.size, 0, none⟩ = some (.string sn) := cell_kept (bx_at wr _ _ 0 _ rfl) hb)
        go_ret2
        exact ⟨by rw [← HZ.out, HS.out]; rfl, bstep (hL.alloc hL.size _) hb⟩
      · rw [if_neg (by rw [hv]; simp)] at hI
        rw [hv] at HVA
        have HAV2 := Lib.hid (take_all vldS l k _ ht HAV.out hv)
        have HFK := fun W (h : Below w.heap.size w W) => HFI k (by rw [← HN.out]; omega) W h
        by_cases hf : 0 ≤ fndS sn 0 (l.take k)
        · rw [if_pos hf] at hI
          have HS := Lib.hid hI
          clear hI hv
          obtain ⟨j, hj⟩ : ∃ j : Nat, fndS sn 0 (l.take k) = j := ⟨(fndS sn 0 (l.take k)).toNat, by omega⟩
          obtain ⟨y, hy⟩ : ∃ y, (l.take k)[j]? = some y := ⟨_, List.getElem?_eq_getElem (by
            rcases fndS_ge sn (l.take k) 0 with h | h
            · omega
            · have := h.2; omega)⟩
          go_upto_region 8 with (go_at_call 8; with_reducible refine (HVA _ (hL.alloc hL.size _)).mono ?_; rintro e w1 ⟨rfl, hb⟩; have p0 : w1.cell? ⟨wr.heap.size, 0, none⟩ = some (.string sn) := cell_kept (bx_at wr _ _ 0 _ rfl) hb)
          have hL1 : Below w.heap.size w w1 := bstep (hL.alloc hL.size _) hb
          have hB : wr.heap.size < w1.heap.size := block_of_cell p0
          generalize wr.heap.size = B at *
          have hK0 : Kp w1 [(B, 0, .string sn)] w1 := (Kp.start (Below.refl _ w1)).add _ _ _ p0
          have hK : Kp w1 [(B, 0, .string sn)] w1.drew := hK0.drew
          have kc : ∀ w', Kp w1 [(B, 0, .string sn)] w' → w'.cell? ⟨B, 0, none⟩ = some (.string sn) := fun w' h => h.at0
          have kl : ∀ c ∈ [(B, 0, Value.string sn)], c.1 < w1.heap.size := by intro c hc; simp at hc; subst hc; exact hB
          have HFN := fun W (h : Kp w1 [(B, 0, .string sn)] W) => find_yes (l.take k) (by simp; omega) _ sn W (HFK W (bstep hL1 h.1)) y j hj hy
          clear p0 HVA y0 y1 y2 y3 HFK hb
          go_region_held3 (fun w' => Kp w1 [(B, 0, .string sn)] w') (first | (with_reducible exact hK) | (with_reducible assumption) | (with_reducible exact Kp.step (by assumption) hb) | (with_reducible exact Kp.alloc (by assumption) _) | (with_reducible exact (Kp.alloc (by assumption) _).drew) | (with_reducible exact Kp.alloc (Kp.step (by assumption) hb) _) | (with_reducible exact (Kp.step (by assumption) hb).drew) | (with_reducible refine Kp.set44 (by assumption) kl _ _ _ _ _ ?_; (first | exact Nat.le_refl _ | (have := hb.size; simp at *; omega)))) (first | (go_at_call 58; (with_reducible refine (HFN _ (by assumption)).mono ?_); rintro e wn ⟨b1, b2, e1, e2, rfl, _, _, hb⟩; have hc := bcell hb))
          all_goals
            rename_i hF
            have hbw := hF.1
            have hq := kc _ hF
            go_wp2
            go_ret2
            exact ⟨by rw [← HZ.out, HS.out]; rfl, bstep hL1 hbw⟩
        · rw [if_neg hf] at hI
          have HS := Lib.hid hI
          clear hI hv
          go_upto_region 8 with (go_at_call 8; with_reducible refine (HVA _ (hL.alloc hL.size _)).mono ?_; rintro e w1 ⟨rfl, hb⟩; have p0 : w1.cell? ⟨wr.heap.size, 0, none⟩ = some (.string sn) := cell_kept (bx_at wr _ _ 0 _ rfl) hb)
          have hL1 : Below w.heap.size w w1 := bstep (hL.alloc hL.size _) hb
          have hB : wr.heap.size < w1.heap.size := block_of_cell p0
          generalize wr.heap.size = B at *
          have hK0 : Kp w1 [(B, 0, .string sn)] w1 := (Kp.start (Below.refl _ w1)).add _ _ _ p0
          have hK : Kp w1 [(B, 0, .string sn)] w1.drew := hK0.drew
          have kc : ∀ w', Kp w1 [(B, 0, .string sn)] w' → w'.cell? ⟨B, 0, none⟩ = some (.string sn) := fun w' h => h.at0
          have kl : ∀ c ∈ [(B, 0, Value.string sn)], c.1 < w1.heap.size := by intro c hc; simp at hc; subst hc; exact hB
          have HFN := fun W (h : Kp w1 [(B, 0, .string sn)] W) => find_no (l.take k) (by simp; omega) _ sn W (HFK W (bstep hL1 h.1)) (by omega)
          clear p0 HVA y0 y1 y2 y3 HFK hb
          go_region_held3 (fun w' => Kp w1 [(B, 0, .string sn)] w') (first | (with_reducible exact hK) | (with_reducible assumption) | (with_reducible exact Kp.step (by assumption) hb) | (with_reducible exact Kp.alloc (by assumption) _) | (with_reducible exact (Kp.alloc (by assumption) _).drew) | (with_reducible exact Kp.alloc (Kp.step (by assumption) hb) _) | (with_reducible exact (Kp.step (by assumption) hb).drew) | (with_reducible refine Kp.set44 (by assumption) kl _ _ _ _ _ ?_; (first | exact Nat.le_refl _ | (have := hb.size; simp at *; omega)))) (first | (go_at_call 58; (with_reducible refine (HFN _ (by assumption)).mono ?_); rintro e wn ⟨rfl, hb⟩; have hc := bcell hb))
          all_goals
            rename_i hF
            have hbw := hF.1
            go_wp2
            go_roundw
            case rel => exact ⟨k + 1, by omega, by go_num, HS, HAV2, bstep hL1 hbw⟩
            case measure => simp [intOf]; omega
    · have HI2 := Lib.hid (show Z = rstG l (fltG l (l.drop 0)) by
        have h := HI.out
        rw [HZ.out, List.drop_of_length_le (by rw [← HN.out]; omega)] at h
        exact h)
      have HAV2 := Lib.hid (show ∀ s ∈ l, vldS s = true by
        have h := HAV.out
        rwa [List.take_of_length_le (by rw [← HN.out]; omega)] at h)
      clear HI HAV HFI hcap
      go_wp2
      go_loopw [9, 44] (fun _ i wq => ∃ j : Nat, j ≤ n ∧ i = .int .i64 j ∧ Hid (Z = rstG l (fltG l (l.drop j))) ∧ Below w.heap.size w wq) (fun _ i _ => n - (intOf i).toNat)
      case atStart => exact ⟨0, Nat.zero_le _, rfl, Lib.hid HI2.out, hL⟩
      case round =>
        obtain ⟨j, hj, rfl, HJ, hQ⟩ := hrel
        obtain ⟨wq, rfl⟩ : ∃ wq, wq = wr := ⟨_, rfl⟩
        by_cases hlt3 : j < n
        · obtain ⟨g, off, cp, e1, hc⟩ := ls_get (HN.out ▸ HV.out) (by rw [← HN.out]; omega)
          simp only [Value.slice.injEq] at e1
          obtain ⟨rfl, _, rfl⟩ := e1
          obtain ⟨x, ht⟩ : ∃ t, l[j]? = some t := ⟨_, List.getElem?_eq_getElem (by rw [← HN.out]; exact hlt3)⟩
          obtain ⟨a1, c1, a2, c2, q1, q2, z0, z1, z2, z3⟩ := hc j x ht
          have y0 := cell_kept z0 hQ
          have y1 := cell_kept z1 hQ
          have y2 := cell_kept z2 hQ
          have y3 := cell_kept z3 hQ
          have HJ2 := Lib.hid (show Z = rstF l (fltF l x (x.frn.drop 0)) (l.drop (j + 1)) by rw [HJ.out, rst_step l j x ht]; rfl)
          have HX := Lib.hid (HAV2.out x (List.mem_of_getElem? ht))
          have Q1 := Lib.hid q1
          have Q2 := Lib.hid q2
          have j0 : (0 : Int) ≤ (j : Int) := by omega
          have j1 : (j : Int) < (n : Int) := by omega
          clear q1 q2 z0 z1 z2 z3 hc ht HJ
          obtain ⟨m1, hm1⟩ : ∃ m, m = x.cols.length := ⟨_, rfl⟩
          obtain ⟨m2, hm2⟩ : ∃ m, m = x.frn.length := ⟨_, rfl⟩
          have HM := Lib.hid (And.intro hm1 hm2)
          rw [← hm1] at y1
          rw [← hm2] at y3
          clear hm1 hm2
          have m8 : (m2 : Int) ≤ 8 := by
            have h1 := (vld_key HX.out).2.2.2.1
            have h2 := HM.out.2
            omega
          go_upto_region 15 with fail
          obtain ⟨W2, hW2⟩ : ∃ W2, wq.alloc (.cells #[.string x.name, .slice a1 m1 c1, .int .i64 x.key, .slice a2 m2 c2] 25) = W2 := ⟨_, rfl⟩
          obtain ⟨hL2, hlt4, p0, p1, p2, p3⟩ := box4n hW2
          rw [hW2]
          clear hW2 y0 y1 y2 y3
          have hw2 := bstep hQ hL2
          generalize wq.heap.size = B9 at *
          go_wp2
          go_loopw [11, 12, 13, 51] (fun _ _ _ i wt => ∃ t : Nat, t ≤ m2 ∧ i = .int .i64 t ∧ Hid (Z = rstF l (fltF l x (x.frn.drop t)) (l.drop (j + 1))) ∧ Below W2.heap.size W2 wt) (fun _ _ _ i _ => m2 - (intOf i).toNat)
          case atStart => exact ⟨0, Nat.zero_le _, rfl, Lib.hid HJ2.out, Below.refl _ _⟩
          case round =>
            obtain ⟨t, ht, rfl, HT, hE⟩ := hrel
            obtain ⟨wt, rfl⟩ : ∃ wt, wt = wr := ⟨_, rfl⟩
            by_cases hlt5 : t < m2
            · obtain ⟨g5, o5, cp5, e5, hc5⟩ := fs_get Q2.out (by rw [← HM.out.2]; omega)
              simp only [Value.slice.injEq] at e5
              obtain ⟨rfl, _, rfl⟩ := e5
              obtain ⟨f, hf⟩ : ∃ y, x.frn[t]? = some y := ⟨_, List.getElem?_eq_getElem (by rw [← HM.out.2]; exact hlt5)⟩
              obtain ⟨ta, tc, htc, hss, c0, c1'⟩ := hc5 t f hf
              have hwt := bstep hw2 hE
              have d0 := cell_kept c0 hwt
              have d1 := cell_kept c1' hwt
              have r0 := cell_kept p0 hE
              have r1 := cell_kept p1 hE
              have r2 := cell_kept p2 hE
              have r3 := cell_kept p3 hE
              have SS := Lib.hid hss
              have HFM := Lib.hid (List.mem_of_getElem? hf)
              have hT := HT.out
              rw [fltF_step l x x.frn t f hf] at hT
              obtain ⟨q, hq⟩ : ∃ q, q = f.cols.length := ⟨_, rfl⟩
              have HQ := Lib.hid hq
              rw [← hq] at d0 htc
              have t0 : (0 : Int) ≤ (t : Int) := by omega
              have t1 : (t : Int) < (m2 : Int) := by omega
              clear hss c0 c1' hc5 hf HT hq
              go_upto_region 18 with fail
              obtain ⟨W3, hW3⟩ : ∃ W3, wt.alloc (.cells #[.slice ta q tc, .string f.tab] 50) = W3 := ⟨_, rfl⟩
              obtain ⟨hL3, hlt6, u0, u1⟩ := box2n hW3
              rw [hW3]
              clear hW3 d0 d1
              replace r0 := cell_kept r0 hL3
              replace r1 := cell_kept r1 hL3
              replace r2 := cell_kept r2 hL3
              replace r3 := cell_kept r3 hL3
              have hw3 := bstep hwt hL3
              have hE3 := bstep hE hL3
              clear hL3 hlt6
              generalize wt.heap.size = B11 at u0 u1 ⊢
              by_cases hfd : fndS f.tab 0 l < 0
              · rw [if_pos hfd] at hT
                have HS := Lib.hid (show Z = (f.tab, 7) from hT)
                have HFN := find_no l (by rw [← HN.out]; omega) (.slice (some ⟨g, off, none⟩) n c) f.tab W3 (HV.out.below hw3) hfd
                clear hT
                go_wp2_with (go_at_call 58; with_reducible refine HFN.mono ?_; rintro e w4 ⟨rfl, hb⟩; have v1 := cell_kept u1 hb; have hB4 := block_of_cell v1; have hw4 := bstep hw3 hb)
                go_ret2
                exact ⟨by rw [HS.out]; rfl, hw4.alloc hw4.size _⟩
              · rw [if_neg hfd] at hT
                obtain ⟨k, hk9⟩ : ∃ k : Nat, fndS f.tab 0 l = k := ⟨(fndS f.tab 0 l).toNat, by omega⟩
                obtain ⟨y, hy⟩ : ∃ y, l[k]? = some y := ⟨_, List.getElem?_eq_getElem (by
                  rcases fndS_ge f.tab l 0 with h | h
                  · omega
                  · have := h.2; omega)⟩
                rw [hk9, Int.toNat_natCast, hy] at hT
                have HY := Lib.hid (HAV2.out y (List.mem_of_getElem? hy))
                have HFY := find_yes l (by rw [← HN.out]; omega) (.slice (some ⟨g, off, none⟩) n c) f.tab W3 (HV.out.below hw3) y k hk9 hy
                have hfit : ∃ b, fitS x f y = b := ⟨_, rfl⟩
                obtain ⟨b, hfit⟩ := hfit
                have hT2 : Z = rstF l (if b = false then some (f.tab, 13) else fltF l x (x.frn.drop (t + 1))) (l.drop (j + 1)) := by rw [← hfit]; exact hT
                have HFIT := Lib.hid hfit
                clear hT hfit hy hk9 hfd
                cases b
                · have HS := Lib.hid (show Z = (f.tab, 13) from hT2)
                  clear hT2
                  go_wp2_with (first | (go_at_call 58; with_reducible refine HFY.mono ?_; rintro e w4 ⟨b1, b2, e1, e2, rfl, hb1, _, hb⟩; have v1 := cell_kept u1 hb; have hB4 := block_of_cell v1; have v0 := cell_kept u0 hb; have s0 := cell_kept r0 hb; have s1 := cell_kept r1 hb; have s2 := cell_kept r2 hb; have s3 := cell_kept r3 hb; have hB9 := block_of_cell s3; have hw4 := bstep hw3 hb; have hc4 := Lib.hid hb1; clear hb1) | (go_at_call 59; with_reducible refine (fits_m x y f false m1 m2 q HFIT.out HM.out.1 HM.out.2 HQ.out a1 _ b1 b2 ta c1 _ e1 e2 tc w _ (hw4.alloc hw4.size _) HX.out HY.out HFM.out Q1.out SS.out (hc4.out.below ((Below.refl _ w4).alloc (Nat.le_refl _) _))).mono ?_; rintro e w6 ⟨rfl, hb6⟩; have z1 := cell_kept (cell_kept v1 ((Below.refl _ w4).alloc (Nat.le_refl _) _)) hb6))
                  go_ret2
                  exact ⟨by rw [HS.out]; rfl, bstep (hw4.alloc hw4.size _) hb6⟩
                · have HS := Lib.hid (show Z = rstF l (fltF l x (x.frn.drop (t + 1))) (l.drop (j + 1)) from hT2)
                  clear hT2
                  go_wp2_with (first | (go_at_call 58; with_reducible refine HFY.mono ?_; rintro e w4 ⟨b1, b2, e1, e2, rfl, hb1, _, hb⟩; have v1 := cell_kept u1 hb; have hB4 := block_of_cell v1; have v0 := cell_kept u0 hb; have s0 := cell_kept r0 hb; have s1 := cell_kept r1 hb; have s2 := cell_kept r2 hb; have s3 := cell_kept r3 hb; have hB9 := block_of_cell s3; have hw4 := bstep hw3 hb; have hc4 := Lib.hid hb1; clear hb1) | (go_at_call 59; with_reducible refine (fits_m x y f true m1 m2 q HFIT.out HM.out.1 HM.out.2 HQ.out a1 _ b1 b2 ta c1 _ e1 e2 tc w _ (hw4.alloc hw4.size _) HX.out HY.out HFM.out Q1.out SS.out (hc4.out.below ((Below.refl _ w4).alloc (Nat.le_refl _) _))).mono ?_; rintro e w6 ⟨rfl, hb6⟩; have hE4 := bstep hE3 hb))
                  go_roundw
                  case rel => exact ⟨t + 1, by omega, by go_num, HS, bstep (hE4.alloc hE4.size _) hb6⟩
                  case measure => simp [intOf]; omega
            · have HS := Lib.hid (show Z = rstG l (fltG l (l.drop (j + 1))) by
                have h := HT.out
                rw [List.drop_of_length_le (by rw [← HM.out.2]; omega)] at h
                exact h)
              go_wp2
              go_roundw
              case rel => exact ⟨j + 1, by omega, by go_num, HS, bstep hw2 hE⟩
              case measure => simp [intOf]; omega
        · have HS := Lib.hid (show Z = (⟨#[]⟩, 0) by
            have h := HJ.out
            rw [List.drop_of_length_le (by rw [← HN.out]; omega)] at h
            exact h)
          go_wp2
          go_ret2
          exact ⟨by rw [HS.out]; rfl, hQ⟩
theorem allS_many (l : List Sch) (h : 8 < l.length) : allS l = (⟨#[]⟩, 5) := by
  unfold allS
  rw [if_pos h]
theorem all_any (l : List Sch) (s : Value) (w : World) (hs : LsAt w s l) : Calls Tryd.prog 41 #[s] w fun e w' => e = .returned (.tuple #[.string (allS l).1, .int .i64 (allS l).2]) ∧ Below w.heap.size w w' := by
  obtain ⟨a, c, rfl, _⟩ := Nest.form hs
  by_cases h : 8 < l.length
  · rw [allS_many l h]
    exact all_many a _ c w (by omega)
  · exact all_go l a _ c w rfl (by omega) hs
end Go.Proofs.YtokbipfkpojflaaDoor.Sc
