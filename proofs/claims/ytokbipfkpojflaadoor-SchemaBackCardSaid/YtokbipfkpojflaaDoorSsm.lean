/-
  The walks of slices.Equal at columns, slices.EqualFunc at foreign keys, and of the law's own same (layer 34).
-/
import Derived.Test.YtokbipfkpojflaaDoorScG
set_option linter.unusedSimpArgs false
set_option linter.unusedVariables false
namespace Go.Proofs.YtokbipfkpojflaaDoor.Sc
open Go Go.RowKit Go.ChangeShapes Go.WideShapes Go.Proofs.YtokbipfkpojflaaDoor.Sl Go.Lib
open Go.Proofs.YtokbipfkpojflaaDoor.Va (Cl flatC flatC_len flatC_snoc Cs cs_get bdrew)

theorem col_ne (a : ByteArray) (l : Int) (w : World) : (binOp .neq 53 (.agg #[.string a, .int .i64 l]) (.agg #[.string a, .int .i64 l])).run Tryd.prog w = .ok (.bool false) w := by
  simp [go_sem, Tryd.underlying53]
set_option maxRecDepth 20000 in
set_option maxHeartbeats 1000000 in
theorem eqc_any (ls : List Cl) (a b : Value) (w : World) (hl : ls.length ≤ 1000000) (ha : Cs w a ls) (hb : Cs w b ls) :
    Calls Tryd.prog 37 #[a, b] w fun e w' => e = .returned (.bool true) ∧ Below w.heap.size w w' := by
  by_cases h0 : ls.length = 0
  · obtain ⟨ad, cap, rfl⟩ := ha.form
    obtain ⟨bd, bcap, rfl⟩ := hb.form
    rw [h0]
    go_enter Tryd.func37, Tryd.ntmps37
    go_wp2
    refine wp_loop_rounds 1 ?_
    rw [rounds_succ]
    go_wp2
    go_ret
    exact ⟨rfl, Below.refl _ _⟩
  · obtain ⟨g, off, cap, rfl, hc⟩ := ha.open h0
    obtain ⟨g2, off2, cap2, rfl, hc2⟩ := hb.open h0
    obtain ⟨n, hn⟩ : ∃ n, n = ls.length := ⟨_, rfl⟩
    have HN := Lib.hid hn
    rw [← hn] at hl h0 ⊢
    have HC := Lib.hid hc
    have HC2 := Lib.hid hc2
    clear hc hc2 ha hb hn
    go_enter Tryd.func37, Tryd.ntmps37
    go_wp2
    go_loopw [13] (fun i wr => ∃ k : Nat, k ≤ n ∧ i = .int .i64 k ∧ Below w.heap.size w wr) (fun i _ => n - (intOf i).toNat)
    case atStart => exact ⟨0, Nat.zero_le _, rfl, Below.refl _ _⟩
    case round =>
      obtain ⟨k, hk, rfl, hL⟩ := hrel
      by_cases hlt : k < n
      · obtain ⟨⟨x, y⟩, ht⟩ : ∃ t, ls[k]? = some t := ⟨_, List.getElem?_eq_getElem (by rw [← HN.out]; exact hlt)⟩
        obtain ⟨t0, t1⟩ := cs_get HC.out ht
        obtain ⟨s0, s1⟩ := cs_get HC2.out ht
        have a0 := Go.Proofs.YtokbipfkpojflaaDoor.Sl.cell_kept t0 hL
        have a1 := Go.Proofs.YtokbipfkpojflaaDoor.Sl.cell_kept t1 hL
        have b0 := Go.Proofs.YtokbipfkpojflaaDoor.Sl.cell_kept s0 hL
        have b1 := Go.Proofs.YtokbipfkpojflaaDoor.Sl.cell_kept s1 hL
        have hq : ∀ wz : World, (binOp .neq 53 (.agg #[.string x, .int .i64 y]) (.agg #[.string x, .int .i64 y])).run Tryd.prog wz = .ok (.bool false) wz := fun wz => col_ne _ _ wz
        have k0 : (0 : Int) ≤ (k : Int) := by omega
        have k1 : (k : Int) < (n : Int) := by omega
        clear ht t0 t1 s0 s1
        go_wp2
        go_region
        go_wp2
        go_roundw
        case rel => exact ⟨k + 1, by omega, by go_num, by first | exact hL.drew | go_grown⟩
        case measure => simp [intOf]; omega
      · go_wp2
        go_ret
        exact ⟨rfl, hL⟩
theorem enter_s1 (args : Array Value) (w : World) : (callFunc 39 args).run Tryd.prog w = .ok (.enter 39 args) w := by simp [go_sem, Tryd.func39]
set_option maxRecDepth 20000 in
theorem sameF_any (f : Fr) (hf : f.cols.length ≤ 1000000) (a b : Value) (w : World) (ha : Ss w a f.cols) (hb : Ss w b f.cols) : Calls Tryd.prog 39 #[.agg #[a, .string f.tab], .agg #[b, .string f.tab]] w fun e w' => e = .returned (.bool true) ∧ Below w.heap.size w w' := by
  have HE := fun W (h : Below w.heap.size w W) => eqs_any f.cols a b W hf (ha.below h) (hb.below h)
  obtain ⟨ad, cap, rfl, _⟩ := ha.form
  obtain ⟨bd, bcap, rfl, _⟩ := hb.form
  have hbb : (f.tab.toList == f.tab.toList) = true := (Lib.bytes_beq_iff f.tab f.tab).2 rfl
  generalize f.cols.length = n at *
  clear ha hb
  go_enter Tryd.func39, Tryd.ntmps39
  go_wp2_with (go_at_call 15; (with_reducible refine (HE _ (by go_grown)).mono ?_); rintro e w1 ⟨rfl, hL⟩; have hL2 : Below w.heap.size w w1 := bstep (by go_grown) hL)
  go_ret
  exact ⟨rfl, hL2⟩
set_option maxRecDepth 20000 in
set_option maxHeartbeats 1000000 in
theorem eqf_any (l : List Fr) (a b : Value) (w : World) (hl : l.length ≤ 1000000) (hl2 : ∀ f ∈ l, f.cols.length ≤ 1000000) (ha : FsAt w a l) (hb : FsAt w b l) :
    Calls Tryd.prog 38 #[a, b, .func (.func 39) #[] #[]] w fun e w' => e = .returned (.bool true) ∧ Below w.heap.size w w' := by
  have HE1 := enter_s1
  by_cases h0 : l.length = 0
  · obtain ⟨ad, cap, rfl, _⟩ := ha.form
    obtain ⟨bd, bcap, rfl, _⟩ := hb.form
    rw [h0]
    go_enter Tryd.func38, Tryd.ntmps38
    go_wp2
    refine wp_loop_rounds 1 ?_
    rw [rounds_succ]
    go_wp2
    go_ret
    exact ⟨rfl, Below.refl _ _⟩
  · obtain ⟨g, off, cap, rfl, hc⟩ := fs_get ha h0
    obtain ⟨g2, off2, cap2, rfl, hc2⟩ := fs_get hb h0
    obtain ⟨n, hn⟩ : ∃ n, n = l.length := ⟨_, rfl⟩
    have HN := Lib.hid hn
    rw [← hn] at hl h0 ⊢
    have HC := Lib.hid hc
    have HC2 := Lib.hid hc2
    have HL2 := Lib.hid hl2
    clear hc hc2 ha hb hn hl2
    go_enter Tryd.func38, Tryd.ntmps38
    go_wp2
    go_loopw [17] (fun i wr => ∃ k : Nat, k ≤ n ∧ i = .int .i64 k ∧ Below w.heap.size w wr) (fun i _ => n - (intOf i).toNat)
    case atStart => exact ⟨0, Nat.zero_le _, rfl, Below.refl _ _⟩
    case round =>
      obtain ⟨k, hk, rfl, hL⟩ := hrel
      by_cases hlt : k < n
      · obtain ⟨f, ht⟩ : ∃ t, l[k]? = some t := ⟨_, List.getElem?_eq_getElem (by rw [← HN.out]; exact hlt)⟩
        obtain ⟨ta, tc, _, hs1, t0, t1⟩ := HC.out k f ht
        obtain ⟨ua, uc, _, hs2, u0, u1⟩ := HC2.out k f ht
        have a0 := Go.Proofs.YtokbipfkpojflaaDoor.Sl.cell_kept t0 hL
        have a1 := Go.Proofs.YtokbipfkpojflaaDoor.Sl.cell_kept t1 hL
        have b0 := Go.Proofs.YtokbipfkpojflaaDoor.Sl.cell_kept u0 hL
        have b1 := Go.Proofs.YtokbipfkpojflaaDoor.Sl.cell_kept u1 hL
        have ba0 := block_of_cell a0
        have bb0 := block_of_cell b0
        have hsz := hL.size
        have HSF := fun W (h : Below w.heap.size w W) => sameF_any f (HL2.out f (List.mem_of_getElem? ht)) (.slice ta f.cols.length tc) (.slice ua f.cols.length uc) W (hs1.below h) (hs2.below h)
        have k0 : (0 : Int) ≤ (k : Int) := by omega
        have k1 : (k : Int) < (n : Int) := by omega
        clear ht t0 t1 u0 u1 hs1 hs2
        generalize f.cols.length = q at *
        generalize f.tab = tab at *
        go_wp2_with (go_at_call 39; (with_reducible refine (HSF _ (by go_grown)).mono ?_); rintro e w1 ⟨rfl, hb⟩; have hL2 : Below w.heap.size w w1 := bstep (by go_grown) hb; clear hb)
        go_roundw
        case rel => exact ⟨k + 1, by omega, by go_num, hL2⟩
        case measure => simp [intOf]; omega
      · go_wp2
        go_ret
        exact ⟨rfl, hL⟩
set_option maxRecDepth 20000 in
set_option maxHeartbeats 1000000 in
theorem same_any (s : Sch) (hc : s.cols.length ≤ 1000000) (hf : s.frn.length ≤ 1000000) (hf2 : ∀ f ∈ s.frn, f.cols.length ≤ 1000000) (a1 b1 a2 b2 : Option Addr) (x1 y1 x2 y2 : Nat) (w : World) (h1 : Cs w (.slice a1 s.cols.length x1) s.cols) (h2 : Cs w (.slice b1 s.cols.length y1) s.cols) (h3 : FsAt w (.slice a2 s.frn.length x2) s.frn) (h4 : FsAt w (.slice b2 s.frn.length y2) s.frn) :
    Calls Tryd.prog 11 #[.agg #[.string s.name, .slice a1 s.cols.length x1, .int .i64 s.key, .slice a2 s.frn.length x2], .agg #[.string s.name, .slice b1 s.cols.length y1, .int .i64 s.key, .slice b2 s.frn.length y2]] w fun e w' => e = .returned (.bool true) ∧ Below w.heap.size w w' := by
  have HC := fun W (h : Below w.heap.size w W) => eqc_any s.cols _ _ W hc (h1.below h) (h2.below h)
  have HF := fun W (h : Below w.heap.size w W) => eqf_any s.frn _ _ W hf hf2 (h3.below (fun r x hx => hx.below h) h) (h4.below (fun r x hx => hx.below h) h)
  have hbb : (s.name.toList == s.name.toList) = true := (Lib.bytes_beq_iff s.name s.name).2 rfl
  generalize s.cols.length = q1 at *
  generalize s.frn.length = q2 at *
  generalize s.name = nm at *
  generalize s.key = ky at *
  clear h1 h2 h3 h4 hf2
  go_enter Tryd.func11, Tryd.ntmps11
  go_upto_region 1 with fail
  obtain ⟨W0, hW⟩ : ∃ W0, (w.alloc (.cells #[.string nm, .slice a1 q1 x1, .int .i64 ky, .slice a2 q2 x2] 25)).alloc (.cells #[.string nm, .slice b1 q1 y1, .int .i64 ky, .slice b2 q2 y2] 25) = W0 := ⟨_, rfl⟩
  have e1 : (w.alloc (.cells #[.string nm, .slice a1 q1 x1, .int .i64 ky, .slice a2 q2 x2] 25)).heap.size = w.heap.size + 1 := by simp
  have c1 : Bx W0 w.heap.size 25 #[.string nm, .slice a1 q1 x1, .int .i64 ky, .slice a2 q2 x2] := hW ▸ (Bx.new w _ _).alloc _
  have c2 : Bx W0 (w.heap.size + 1) 25 #[.string nm, .slice b1 q1 y1, .int .i64 ky, .slice b2 q2 y2] := by
    have h := Bx.new (w.alloc (.cells #[.string nm, .slice a1 q1 x1, .int .i64 ky, .slice a2 q2 x2] 25)) 25 #[.string nm, .slice b1 q1 y1, .int .i64 ky, .slice b2 q2 y2]
    rw [e1, hW] at h
    exact h
  have hL : Below w.heap.size w W0 := hW ▸ ((Below.refl _ w).alloc (Nat.le_refl _) _).alloc (by omega) _
  rw [hW]
  clear hW e1
  have p0 := c1.cell 0 _ rfl
  have p1 := c1.cell 1 _ rfl
  have p2 := c1.cell 2 _ rfl
  have p3 := c1.cell 3 _ rfl
  have r0 := c2.cell 0 _ rfl
  have r1 := c2.cell 1 _ rfl
  have r2 := c2.cell 2 _ rfl
  have r3 := c2.cell 3 _ rfl
  have HB1 := Lib.hid c1
  have HB2 := Lib.hid c2
  clear c1 c2
  generalize w.heap.size + 1 = B2 at *
  go_wp2_with (first | (go_at_call 37; (with_reducible refine (HC _ hL).mono ?_); rintro e w1 ⟨rfl, hb⟩; have p31 := (HB1.out.below hb).cell 3 _ rfl; have r31 := (HB2.out.below hb).cell 3 _ rfl; have hL1 := bstep hL hb) | (go_at_call 38; (with_reducible refine (HF _ hL1).mono ?_); rintro e w2 ⟨rfl, hb2⟩; have hL2 := bstep hL1 hb2))
  go_ret
  exact ⟨rfl, hL2⟩
end Go.Proofs.YtokbipfkpojflaaDoor.Sc
