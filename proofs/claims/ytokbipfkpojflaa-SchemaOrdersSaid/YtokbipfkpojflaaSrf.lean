/-
  The walks of Refers, refers and of the reference's (layer 34).
-/
import Derived.Test.YtokbipfkpojflaaScG
import Derived.Test.YtokbipfkpojflaaSr
set_option linter.unusedSimpArgs false
set_option linter.unusedVariables false
namespace Go.Proofs.Ytokbipfkpojflaa.Sc
open Go Go.RowKit Go.ChangeShapes Go.WideShapes Go.Proofs.Ytokbipfkpojflaa.Sl Go.Lib
open Go.Proofs.Ytokbipfkpojflaa.Va (Cl flatC flatC_len flatC_snoc Cs cs_get bdrew)

def refS (name : ByteArray) (s : Sch) : Bool := s.frn.any fun f => decide (f.tab = name)
/-- What Refers returns. -/
def refL (name : ByteArray) (l : List Sch) : List ByteArray := (l.filter (refS name)).map (·.name)
theorem refL_step (name : ByteArray) (l : List Sch) (k : Nat) (s : Sch) (h : l[k]? = some s) : refL name (l.take (k + 1)) = if refS name s = true then refL name (l.take k) ++ [s.name] else refL name (l.take k) := by
  unfold refL
  rw [List.take_add_one, h, List.filter_append, List.map_append]
  by_cases hr : refS name s = true
  · rw [if_pos hr]; simp [hr]
  · rw [if_neg hr]; simp [hr]
theorem refL_len (name : ByteArray) (l : List Sch) (k : Nat) : (refL name (l.take k)).length ≤ k := by
  unfold refL
  rw [List.length_map]
  exact Nat.le_trans (List.length_filter_le _ _) (by rw [List.length_take]; omega)
theorem enter_rf (args : Array Value) (w : World) : (callFunc 100 args).run Try.prog w = .ok (.enter 100 args) w := by simp [go_sem, Try.func100]
theorem rfc_any (tab name : ByteArray) (a : Option Addr) (n c B : Nat) (w : World) (hc : w.cell? ⟨B, 0, none⟩ = some (.string name)) :
    Calls Try.prog 100 #[.agg #[.slice a n c, .string tab], .pointer (some ⟨B, 0, none⟩)] w fun e w' => e = .returned (.bool (decide (tab = name))) ∧ Below w.heap.size w w' := by
  have hB := block_of_cell hc
  have HZ : Hid ((tab.toList == name.toList) = decide (tab = name)) := Lib.hid (by rw [Bool.eq_iff_iff, Lib.bytes_beq_iff, decide_eq_true_eq])
  go_enter Try.func100, Try.ntmps100
  go_wp2
  go_ret
  exact ⟨by rw [← HZ.out]; rfl, by go_grown⟩
set_option maxRecDepth 20000 in
theorem refers_any (s : Sch) (name : ByteArray) (a1 a2 : Option Addr) (c1 c2 : Nat) (w : World) (hl : s.frn.length ≤ 1000000) (hf : FsAt w (.slice a2 s.frn.length c2) s.frn) :
    Calls Try.prog 82 #[.agg #[.string s.name, .slice a1 s.cols.length c1, .int .i64 s.key, .slice a2 s.frn.length c2], .string name] w fun e w' => e = .returned (.bool (refS name s)) ∧ Below w.heap.size w w' := by
  have hI : ∀ W W' : World, (W.cell? ⟨w.heap.size + 1, 0, none⟩ = some (.string name)) → Below W.heap.size W W' → W'.cell? ⟨w.heap.size + 1, 0, none⟩ = some (.string name) := fun W W' h hb => Go.Proofs.Ytokbipfkpojflaa.Sl.cell_kept h hb
  have HA := fun W (h : Below w.heap.size w W) (hc : W.cell? ⟨w.heap.size + 1, 0, none⟩ = some (.string name)) => has_frn1 100 enter_rf (.pointer (some ⟨w.heap.size + 1, 0, none⟩)) (fun f => decide (f.tab = name)) (fun W => W.cell? ⟨w.heap.size + 1, 0, none⟩ = some (.string name)) hI s.frn (fun W f b1 d1 _ hW _ => rfc_any f.tab name b1 _ d1 (w.heap.size + 1) W hW) hl _ W (hf.below (fun r x hx => hx.below h) h) hc
  unfold refS
  generalize (s.frn.any fun f => decide (f.tab = name)) = y at HA ⊢
  generalize s.cols.length = m1 at *
  generalize s.frn.length = m2 at *
  generalize s.name = nm at *
  generalize s.key = ky at *
  clear hf hI
  go_enter Try.func82, Try.ntmps82
  go_upto_region 1 with fail
  obtain ⟨W0, hW⟩ : ∃ W0, (w.alloc (.cells #[.string nm, .slice a1 m1 c1, .int .i64 ky, .slice a2 m2 c2] 28)).alloc (.cells #[.string name] 9) = W0 := ⟨_, rfl⟩
  have e1 : (w.alloc (.cells #[.string nm, .slice a1 m1 c1, .int .i64 ky, .slice a2 m2 c2] 28)).heap.size = w.heap.size + 1 := by simp
  have b1 : Bx W0 w.heap.size 28 #[.string nm, .slice a1 m1 c1, .int .i64 ky, .slice a2 m2 c2] := hW ▸ (Bx.new w _ _).alloc _
  have b2 : Bx W0 (w.heap.size + 1) 9 #[.string name] := by
    have h := Bx.new (w.alloc (.cells #[.string nm, .slice a1 m1 c1, .int .i64 ky, .slice a2 m2 c2] 28)) 9 #[.string name]
    rw [e1, hW] at h
    exact h
  have hL : Below w.heap.size w W0 := hW ▸ ((Below.refl _ w).alloc (Nat.le_refl _) _).alloc (by omega) _
  rw [hW]
  clear hW e1
  have p3 := b1.cell 3 _ rfl
  have q0 := b2.cell 0 _ rfl
  clear b1 b2
  have HA2 := HA W0 hL q0
  clear HA
  generalize w.heap.size + 1 = B2 at *
  go_wp2_with (go_at_call 25; (with_reducible refine HA2.mono ?_); rintro e w1 ⟨rfl, hb⟩)
  go_ret
  exact ⟨rfl, bstep hL hb⟩
set_option maxRecDepth 20000 in
set_option maxHeartbeats 1000000 in
theorem rrefers_any (s : Sch) (name : ByteArray) (a1 a2 : Option Addr) (c1 c2 : Nat) (w : World) (hl : s.frn.length ≤ 1000000) (hf : FsAt w (.slice a2 s.frn.length c2) s.frn) :
    Calls Try.prog 58 #[.agg #[.string s.name, .slice a1 s.cols.length c1, .int .i64 s.key, .slice a2 s.frn.length c2], .string name] w fun e w' => e = .returned (.bool (refS name s)) ∧ Below w.heap.size w w' := by
  obtain ⟨n, hn⟩ : ∃ n, n = s.frn.length := ⟨_, rfl⟩
  have HN := Lib.hid hn
  have HF := Lib.hid hf
  obtain ⟨Z, hZ⟩ : ∃ Z, refS name s = Z := ⟨_, rfl⟩
  have HZ := Lib.hid (show (s.frn.drop 0).any (fun f => decide (f.tab = name)) = Z from hZ)
  rw [hZ]
  rw [← hn] at hl ⊢
  clear hf hn hZ
  generalize s.cols.length = m1 at *
  generalize s.name = nm at *
  generalize s.key = ky at *
  go_enter Try.func58, Try.ntmps58
  go_upto_region 1 with fail
  obtain ⟨W0, hW⟩ : ∃ W0, w.alloc (.cells #[.string nm, .slice a1 m1 c1, .int .i64 ky, .slice a2 n c2] 28) = W0 := ⟨_, rfl⟩
  obtain ⟨hL, hlt, p0, p1, p2, p3⟩ := box4n hW
  rw [hW]
  clear hW
  go_wp2
  go_loop [5] (fun i => ∃ k : Nat, k ≤ n ∧ i = .int .i64 k ∧ Hid ((s.frn.drop k).any (fun f => decide (f.tab = name)) = Z)) (fun i => n - (intOf i).toNat)
  case atStart => exact ⟨0, Nat.zero_le _, rfl, HZ⟩
  case round =>
    obtain ⟨k, hk, rfl, HI⟩ := hrel
    by_cases hlt2 : k < n
    · obtain ⟨g, off, cp, e1, hc⟩ := fs_get HF.out (by rw [← HN.out]; omega)
      rw [← HN.out] at e1
      simp only [Value.slice.injEq] at e1
      obtain ⟨rfl, _, rfl⟩ := e1
      obtain ⟨f, ht⟩ : ∃ t, s.frn[k]? = some t := ⟨_, List.getElem?_eq_getElem (by rw [← HN.out]; exact hlt2)⟩
      obtain ⟨ta, tc, _, _, z0, z1⟩ := hc k f ht
      have d1 := Go.Proofs.Ytokbipfkpojflaa.Sl.cell_kept z1 hL
      have hst : (s.frn.drop k).any (fun f => decide (f.tab = name)) = (decide (f.tab = name) || (s.frn.drop (k + 1)).any (fun f => decide (f.tab = name))) := by
        have hk : k < s.frn.length := (List.getElem?_eq_some_iff.1 ht).1
        rw [List.drop_eq_getElem_cons hk, List.any_cons, (List.getElem?_eq_some_iff.1 ht).2]
      rw [HI.out] at hst
      have k0 : (0 : Int) ≤ (k : Int) := by omega
      have k1 : (k : Int) < (n : Int) := by omega
      generalize f.tab = tb at *
      clear hc ht z0 z1
      by_cases he : tb = name
      · have HS2 := Lib.hid (show Z = true by rw [hst, decide_eq_true he]; rfl)
        have hb : (tb.toList == name.toList) = true := (Lib.bytes_beq_iff tb name).2 he
        clear hst he
        go_wp2
        go_ret
        exact ⟨by rw [HS2.out]; rfl, hL⟩
      · have HS2 := Lib.hid (show (s.frn.drop (k + 1)).any (fun f => decide (f.tab = name)) = Z by rw [hst, decide_eq_false he, Bool.false_or])
        have hb : (tb.toList == name.toList) = false := (Lib.bytes_beq_false_iff tb name).2 he
        clear hst he
        go_wp2
        go_round
        case rel => exact ⟨k + 1, by omega, by go_num, HS2⟩
        case measure => simp [intOf]; omega
    · have HE := Lib.hid (show Z = false by rw [← HI.out, List.drop_of_length_le (by rw [← HN.out]; omega)]; rfl)
      go_wp2
      go_ret
      exact ⟨by rw [HE.out]; rfl, hL⟩
set_option maxRecDepth 20000 in
set_option maxHeartbeats 2000000 in
theorem refersL_any (l : List Sch) (name : ByteArray) (v : Value) (w : World) (hl : l.length ≤ 1000000) (hl2 : ∀ s ∈ l, s.frn.length ≤ 1000000) (hs : LsAt w v l) : Calls Try.prog 35 #[v, .string name] w fun e w' => ∃ o, e = .returned o ∧ Tf w w' o (refL name l) := by
  obtain ⟨a, c, rfl, _⟩ := Nest.form hs
  obtain ⟨n, hn⟩ : ∃ n, n = l.length := ⟨_, rfl⟩
  have HN := Lib.hid hn
  have HS := Lib.hid hs
  have HL2 := Lib.hid hl2
  rw [← hn] at hl ⊢
  clear hs hn hl2
  go_enter Try.func35, Try.ntmps35
  go_wp2
  go_loopw [5, 10] (fun o i wr => ∃ k : Nat, k ≤ n ∧ i = .int .i64 k ∧ Tf w wr o (refL name (l.take k))) (fun _ i _ => n - (intOf i).toNat)
  case atStart => exact ⟨0, Nat.zero_le _, rfl, Tf.nil w⟩
  case round =>
    obtain ⟨k, hk, rfl, hT⟩ := hrel
    by_cases hlt : k < n
    · obtain ⟨g, off, cp, e1, hc⟩ := ls_get HS.out (by rw [← HN.out]; omega)
      simp only [Value.slice.injEq] at e1
      obtain ⟨rfl, _, rfl⟩ := e1
      obtain ⟨y, ht⟩ : ∃ t, l[k]? = some t := ⟨_, List.getElem?_eq_getElem (by rw [← HN.out]; exact hlt)⟩
      obtain ⟨b1, d1, b2, d2, hcs, hfs, z0, z1, z2, z3⟩ := hc k y ht
      have hR := hT.2
      have x0 := Go.Proofs.Ytokbipfkpojflaa.Sl.cell_kept z0 hR
      have x1 := Go.Proofs.Ytokbipfkpojflaa.Sl.cell_kept z1 hR
      have x2 := Go.Proofs.Ytokbipfkpojflaa.Sl.cell_kept z2 hR
      have x3 := Go.Proofs.Ytokbipfkpojflaa.Sl.cell_kept z3 hR
      have xb := block_of_cell x0
      have k0 : (0 : Int) ≤ (k : Int) := by omega
      have k1 : (k : Int) < (n : Int) := by omega
      have HRF := fun W (h : Below w.heap.size w W) => refers_any y name b1 b2 d1 d2 W (HL2.out y (List.mem_of_getElem? ht)) (hfs.below (fun r x hx => hx.below h) h)
      have hst := refL_step name l k y ht
      have hlen := refL_len name l k
      generalize refS name y = rv at HRF hst
      generalize y.cols.length = q1 at *
      generalize y.frn.length = q2 at *
      generalize y.name = nm at *
      generalize y.key = ky at *
      have hsz := hR.size
      clear hc ht hcs hfs z0 z1 z2 z3
      go_upto_region 5 with fail
      obtain ⟨W2, hW2⟩ : ∃ W2, wr.alloc (.cells #[.string nm, .slice b1 q1 d1, .int .i64 ky, .slice b2 q2 d2] 28) = W2 := ⟨_, rfl⟩
      obtain ⟨hL2, hlt2, p0, p1, p2, p3⟩ := box4n hW2
      rw [hW2]
      have hT2 : Tf w W2 u5 (refL name (l.take k)) := hW2 ▸ hT.alloc _
      have hw3 := bstep hR hL2
      clear hW2 x0 x1 x2 x3
      generalize wr.heap.size = B7 at p0 p1 p2 p3 hlt2 ⊢
      cases rv
      · rw [if_neg (by simp)] at hst
        have HST := Lib.hid hst
        clear hst
        go_wp2_with (go_at_call 82; (with_reducible refine (HRF _ hw3).mono ?_); rintro e w4 ⟨rfl, hb4⟩; have hT4 := hT2.below' hb4)
        go_roundw
        case rel => exact ⟨k + 1, by omega, by go_num, by rw [HST.out]; exact hT4⟩
        case measure => simp [intOf]; omega
      · rw [if_pos rfl] at hst
        have HST := Lib.hid hst
        clear hst
        go_wp2_with (first | (go_at_call 82; (with_reducible refine (HRF _ hw3).mono ?_); rintro e w4 ⟨rfl, hb4⟩; have hT4 := hT2.below' hb4; have p04 := Go.Proofs.Ytokbipfkpojflaa.Sl.cell_kept p0 hb4) | (at_builtin; refine wp_str hT4 rfl (.tmp 17) (.tmp 20) rfl rfl 9 rfl (by simp) nm (by omega) ?_; intro v1 w1 hB1))
        go_roundw
        case rel => exact ⟨k + 1, by omega, by go_num, by rw [HST.out]; exact hB1⟩
        case measure => simp [intOf]; omega
    · have e1 : l.take k = l := List.take_of_length_le (by rw [← HN.out]; omega)
      rw [e1] at hT
      go_wp2
      go_ret
      exact ⟨_, rfl, hT⟩
set_option maxRecDepth 20000 in
set_option maxHeartbeats 2000000 in
theorem rrefersL_any (l : List Sch) (name : ByteArray) (v : Value) (w : World) (hl : l.length ≤ 1000000) (hl2 : ∀ s ∈ l, s.frn.length ≤ 1000000) (hs : LsAt w v l) : Calls Try.prog 36 #[v, .string name] w fun e w' => ∃ o, e = .returned o ∧ Tf w w' o (refL name l) := by
  obtain ⟨a, c, rfl, _⟩ := Nest.form hs
  obtain ⟨n, hn⟩ : ∃ n, n = l.length := ⟨_, rfl⟩
  have HN := Lib.hid hn
  have HS := Lib.hid hs
  have HL2 := Lib.hid hl2
  rw [← hn] at hl ⊢
  clear hs hn hl2
  go_enter Try.func36, Try.ntmps36
  go_wp2
  go_loopw [5, 6] (fun o i wr => ∃ k : Nat, k ≤ n ∧ i = .int .i64 k ∧ Tf w wr o (refL name (l.take k))) (fun _ i _ => n - (intOf i).toNat)
  case atStart => exact ⟨0, Nat.zero_le _, rfl, Tf.nil w⟩
  case round =>
    obtain ⟨k, hk, rfl, hT⟩ := hrel
    by_cases hlt : k < n
    · obtain ⟨g, off, cp, e1, hc⟩ := ls_get HS.out (by rw [← HN.out]; omega)
      simp only [Value.slice.injEq] at e1
      obtain ⟨rfl, _, rfl⟩ := e1
      obtain ⟨y, ht⟩ : ∃ t, l[k]? = some t := ⟨_, List.getElem?_eq_getElem (by rw [← HN.out]; exact hlt)⟩
      obtain ⟨b1, d1, b2, d2, hcs, hfs, z0, z1, z2, z3⟩ := hc k y ht
      have hR := hT.2
      have x0 := Go.Proofs.Ytokbipfkpojflaa.Sl.cell_kept z0 hR
      have x1 := Go.Proofs.Ytokbipfkpojflaa.Sl.cell_kept z1 hR
      have x2 := Go.Proofs.Ytokbipfkpojflaa.Sl.cell_kept z2 hR
      have x3 := Go.Proofs.Ytokbipfkpojflaa.Sl.cell_kept z3 hR
      have xb := block_of_cell x0
      have k0 : (0 : Int) ≤ (k : Int) := by omega
      have k1 : (k : Int) < (n : Int) := by omega
      have HRF := fun W (h : Below w.heap.size w W) => rrefers_any y name b1 b2 d1 d2 W (HL2.out y (List.mem_of_getElem? ht)) (hfs.below (fun r x hx => hx.below h) h)
      have hst := refL_step name l k y ht
      have hlen := refL_len name l k
      generalize refS name y = rv at HRF hst
      generalize y.cols.length = q1 at *
      generalize y.frn.length = q2 at *
      generalize y.name = nm at *
      generalize y.key = ky at *
      have hsz := hR.size
      clear hc ht hcs hfs z0 z1 z2 z3
      have hT2 := hT
      have p0 := x0
      have hw3 := hR
      cases rv
      · rw [if_neg (by simp)] at hst
        have HST := Lib.hid hst
        clear hst
        go_wp2_with (go_at_call 58; (with_reducible refine (HRF _ hw3).mono ?_); rintro e w4 ⟨rfl, hb4⟩; have hT4 := hT2.below' hb4)
        go_roundw
        case rel => exact ⟨k + 1, by omega, by go_num, by rw [HST.out]; exact hT4⟩
        case measure => simp [intOf]; omega
      · rw [if_pos rfl] at hst
        have HST := Lib.hid hst
        clear hst
        go_wp2_with (first | (go_at_call 58; (with_reducible refine (HRF _ hw3).mono ?_); rintro e w4 ⟨rfl, hb4⟩; have hT4 := hT2.below' hb4; have p04 := Go.Proofs.Ytokbipfkpojflaa.Sl.cell_kept p0 hb4) | (at_builtin; refine wp_str hT4 rfl (.tmp 19) (.tmp 25) rfl rfl 9 rfl (by simp) nm (by omega) ?_; intro v1 w1 hB1))
        go_roundw
        case rel => exact ⟨k + 1, by omega, by go_num, by rw [HST.out]; exact hB1⟩
        case measure => simp [intOf]; omega
    · have e1 : l.take k = l := List.take_of_length_le (by rw [← HN.out]; omega)
      rw [e1] at hT
      go_wp2
      go_ret
      exact ⟨_, rfl, hT⟩
end Go.Proofs.Ytokbipfkpojflaa.Sc
