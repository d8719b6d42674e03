/-
  The walk of the law SchemaDepends (layer 34).
-/
import Derived.Test.YtokbipfkpojflaaSdb
import Derived.Test.YtokbipfkpojflaaScG
import Derived.Test.YtokbipfkpojflaaSop
set_option linter.unusedSimpArgs false
set_option linter.unusedVariables false
namespace Go.Proofs.Ytokbipfkpojflaa.Sc
open Go Go.RowKit Go.ChangeShapes Go.WideShapes Go.Proofs.Ytokbipfkpojflaa.Sl Go.Lib
open Go.Proofs.Ytokbipfkpojflaa.Va (Cl flatC Cs)

/-- What stands in memory as schemas are taken away. -/
structure DpS (w : World) (LB : Nat) (U lf : List Sch) (rows : List (List Value)) (g n c : Nat) (W : World) : Prop where
  lb : Bx W LB 22 #[.slice (some ⟨g, 0, none⟩) n c]
  cell : ∀ j u, rows.flatten[j]? = some u → W.cell? ⟨g, j, none⟩ = some u
  len : rows.length = lf.length ∧ n = lf.length ∧ n ≤ c ∧ lf.length ≤ 1000000
  four : ∀ r ∈ rows, r.length = 4
  at_ : ∀ (i : Nat) (r : List Value) (x : Sch), rows[i]? = some r → lf[i]? = some x → ScAt w r x
  b : Below w.heap.size w W
  far : w.heap.size ≤ LB ∧ g ≠ LB
  sub : ∀ u ∈ U, u ∈ lf
  frs : ∀ s ∈ lf, s.frn.length ≤ 1000000
theorem DpS.below {w : World} {LB : Nat} {U lf : List Sch} {rows : List (List Value)} {g n c : Nat} {W W' : World} (h : DpS w LB U lf rows g n c W) (hb : Below W.heap.size W W') : DpS w LB U lf rows g n c W' :=
  ⟨h.lb.below hb, fun j u hu => Go.Proofs.Ytokbipfkpojflaa.Sl.cell_kept (h.cell j u hu) hb, h.len, h.four, h.at_, bstep h.b hb, h.far, h.sub, h.frs⟩
theorem DpS.ls {w : World} {LB : Nat} {U lf : List Sch} {rows : List (List Value)} {g n c : Nat} {W : World} (h : DpS w LB U lf rows g n c W) : LsAt W (.slice (some ⟨g, 0, none⟩) n c) lf :=
  ls_of_cells h.cell h.len.1 h.len.2.1 h.len.2.2.1 h.four h.at_ h.b
theorem DpS.one {w : World} {LB : Nat} {U lf : List Sch} {rows : List (List Value)} {g n c : Nat} {W : World} (h : DpS w LB U lf rows g n c W) : ∀ u ∈ rows.flatten, u.oneCell' = true := sch_one h.len.1 h.at_
def DpL (w : World) (LB : Nat) (U : List Sch) (i : Value) (W : World) : Prop := ∃ (b : Bool) (lf : List Sch) (rows : List (List Value)) (g n c : Nat), i = .bool b ∧ Hid (DpS w LB U lf rows g n c W)
def lenD (W : World) (LB : Nat) : Nat := match W.cell? ⟨LB, 0, none⟩ with
  | some (.slice _ n _) => n
  | _ => 0
def mD (LB : Nat) (i : Value) (W : World) : Nat := match i with
  | .bool true => lenD W LB + 1
  | _ => 0
theorem lenD_is {W : World} {LB : Nat} {t : TypeId} {a : Option Addr} {n c : Nat} (h : Bx W LB t #[.slice a n c]) : lenD W LB = n := by
  unfold lenD
  rw [h.cell 0 _ rfl]
  rfl
set_option maxRecDepth 20000 in
set_option maxHeartbeats 2000000 in
theorem dep_great (v : Value) (l : List Sch) (w : World) (hs : LsAt w v l) (h : grL l = true) : Calls Try.prog 7 #[v] w fun e w' => e = .returned (.bool true) ∧ Below w.heap.size w w' := by
  have HG := fun W (h : Below w.heap.size w W) => great_any l v W (hs.below h)
  rw [h] at HG
  obtain ⟨a, c, rfl, _⟩ := Nest.form hs
  obtain ⟨n, hn⟩ : ∃ n, n = l.length := ⟨_, rfl⟩
  rw [← hn] at HG ⊢
  clear hs h hn
  go_enter Try.func7, Try.ntmps7
  go_wp2_with (first | (go_at_call 10; (with_reducible refine (awake_any _).mono ?_); rintro e w1 ⟨rfl, hb1⟩) | (go_at_call 11; (with_reducible refine (HG _ hb1).mono ?_); rintro e w2 ⟨rfl, hb2⟩; have hw2 := bstep hb1 hb2))
  go_ret
  exact ⟨rfl, hw2⟩
set_option maxRecDepth 20000 in
set_option maxHeartbeats 2000000 in
theorem dep_bad (v : Value) (l : List Sch) (w : World) (hs : LsAt w v l) (hg : grL l = false) (h : ¬ (allS l).2 = 0) : Calls Try.prog 7 #[v] w fun e w' => e = .returned (.bool true) ∧ Below w.heap.size w w' := by
  have HG := fun W (h : Below w.heap.size w W) => great_any l v W (hs.below h)
  rw [hg] at HG
  have HA := fun W (h : Below w.heap.size w W) => all_any l v W (hs.below h)
  have HO := fun W (h : Below w.heap.size w W) => order_any l v W (hs.below h)
  have ho : ordS l = ([], (allS l).2) := by unfold ordS; rw [if_neg h]
  rw [ho] at HO
  have hx : ((allS l).2 != 0) = true := by simpa using h
  obtain ⟨a, c, rfl, _⟩ := Nest.form hs
  obtain ⟨n, hn⟩ : ∃ n, n = l.length := ⟨_, rfl⟩
  rw [← hn] at HG HA HO ⊢
  generalize (allS l).1 = t at HA
  generalize (allS l).2 = x at HA HO hx
  clear hs h hn hg ho
  go_enter Try.func7, Try.ntmps7
  go_wp2_with (first | (go_at_call 10; (with_reducible refine (awake_any _).mono ?_); rintro e w1 ⟨rfl, hb1⟩) | (go_at_call 11; (with_reducible refine (HG _ hb1).mono ?_); rintro e w2 ⟨rfl, hb2⟩; have hw2 := bstep hb1 hb2) | (go_at_call 14; (with_reducible refine (HA _ hw2).mono ?_); rintro e w3 ⟨rfl, hb3⟩; have hw3 := bstep hw2 hb3) | (go_at_call 18; (with_reducible refine (HO _ hw3).mono ?_); rintro e w4 ⟨ov, rfl, hso, hb4⟩; have hw4 := bstep hw3 hb4; obtain ⟨oa, oc, hov⟩ : ∃ a c, ov = .slice a 0 c := (by obtain ⟨a, c, h, _⟩ := hso.form; exact ⟨a, c, h⟩); subst hov))
  go_ret
  exact ⟨by first | rfl | simp, hw4⟩
set_option maxRecDepth 20000 in
set_option maxHeartbeats 4000000 in
theorem dep_circ (v : Value) (l : List Sch) (w : World) (hs : LsAt w v l) (hg : grL l = false) (h : (allS l).2 = 0) (ho : ordF l l.length [] = none) (hbd : l.length ≤ 12 ∧ ∀ s ∈ l, s.frn.length ≤ 20) : Calls Try.prog 7 #[v] w fun e w' => e = .returned (.bool true) ∧ Below w.heap.size w w' := by
  obtain ⟨U, hC, hU⟩ := circ_of l h ho
  have hpos := circ_pos hC hU
  have HG := fun W (h : Below w.heap.size w W) => great_any l v W (hs.below h)
  rw [hg] at HG
  have HA := fun W (h : Below w.heap.size w W) => all_any l v W (hs.below h)
  have HO := fun W (h : Below w.heap.size w W) => order_any l v W (hs.below h)
  have ho2 : ordS l = ([], 17) := by unfold ordS; rw [if_pos h, ho]
  rw [ho2] at HO
  rw [h] at HA
  obtain ⟨rows, r1, ⟨r2, rc⟩, r3, r4⟩ := hs
  obtain ⟨g, off, c, rfl, hcell⟩ := r2.open (by omega)
  have hcap := rc.le
  obtain ⟨n, hn⟩ : ∃ n, n = l.length := ⟨_, rfl⟩
  have HCL := fun W (h : Below w.heap.size w W) => clone_rows g off n c rows.flatten W (fun j u hu => Go.Proofs.Ytokbipfkpojflaa.Sl.cell_kept (hcell j u hu) h) (by rw [flat_len4 rows r3, r1, hn]) (by omega) (by omega) (sch_one r1 r4)
  have HR1 := Lib.hid r1
  have HR3 := Lib.hid r3
  have HR4 := Lib.hid r4
  have HN := Lib.hid hn
  have HUU := Lib.hid hU
  have HCC := Lib.hid hC
  have HBD := Lib.hid hbd
  rw [← hn] at HG HA HO ⊢
  generalize (allS l).1 = t at HA
  clear r1 r2 rc r3 r4 hcell hcap h hn hg ho ho2 hU hC hpos hbd
  go_enter Try.func7, Try.ntmps7
  go_upto_region 12 with (first | (go_at_call 10; (with_reducible refine (awake_any _).mono ?_); rintro e w1 ⟨rfl, hb1⟩) | (go_at_call 11; (with_reducible refine (HG _ hb1).mono ?_); rintro e w2 ⟨rfl, hb2⟩; have hw2 := bstep hb1 hb2) | (go_at_call 14; (with_reducible refine (HA _ hw2).mono ?_); rintro e w3 ⟨rfl, hb3⟩; have hw3 := bstep hw2 hb3) | (go_at_call 18; (with_reducible refine (HO _ hw3).mono ?_); rintro e w4 ⟨ov, rfl, hso, hb4⟩; have hw4 := bstep hw3 hb4; obtain ⟨oa, oc, hov⟩ : ∃ a c, ov = .slice a 0 c := (by obtain ⟨a, c, h, _⟩ := hso.form; exact ⟨a, c, h⟩); subst hov) | (go_at_call 24; (with_reducible refine (HCL _ hw4).mono ?_); rintro e w5 ⟨g2, cap2, rfl, hF⟩))
  have hw5 := bstep hw4 hF.b
  have hD := Lib.hid (show DpS w w5.heap.size U l rows g2 n cap2 (w5.alloc (.cells #[.slice (some ⟨g2, 0, none⟩) n cap2] 22)) from
    ⟨Bx.new w5 _ _, fun j u hu => Go.Proofs.Ytokbipfkpojflaa.Sl.cell_kept (hF.cell j u hu) ((Below.refl _ w5).alloc (Nat.le_refl _) _), ⟨HR1.out, HN.out, hF.cap.1, by have := HBD.out.1; omega⟩, HR3.out, HR4.out, hw5.alloc hw5.size _, ⟨hw5.size, fun e => by
      have h0 : 0 < rows.flatten.length := by rw [flat_len4 rows HR3.out, HR1.out]; have := circ_pos HCC.out HUU.out; omega
      have := block_of_cell (hF.cell 0 _ (List.getElem?_eq_getElem h0))
      omega⟩, HUU.out, fun s hs => by have := HBD.out.2 s hs; omega⟩)
  clear hF hw5 hb1 hb2 hw2 hb3 hw3 hso hb4 hw4 HG HA HO HCL
  generalize w5.alloc (.cells #[.slice (some ⟨g2, 0, none⟩) n cap2] 22) = W6 at *
  generalize w5.heap.size = LB at *
  go_upto_region 13 with fail
  go_loopw [10] (fun i wr => DpL w LB U i wr) (fun i wr => mD LB i wr)
  case atStart => exact ⟨true, l, rows, g2, n, cap2, rfl, hD⟩
  case round =>
    obtain ⟨b, lf, rws, g3, n3, c3, rfl, HS⟩ := hrel
    clear hD
    obtain ⟨W7, rfl⟩ : ∃ x, x = wr := ⟨wr, rfl⟩
    have c0 := HS.out.lb.cell 0 _ rfl
    cases b
    · have hp : (0 : Int) < (n3 : Int) := by have := circ_pos HCC.out HS.out.sub; have := HS.out.len; omega
      go_wp2
      go_ret
      exact ⟨by first | rfl | simp, HS.out.b⟩
    · have hm := Lib.hid (show mD LB (.bool true) W7 = n3 + 1 by show lenD W7 LB + 1 = _; rw [lenD_is HS.out.lb])
      go_upto_region 16 with fail
      go_loopw [10, 55] (fun b i wq => b = .bool false ∧ ∃ k : Nat, k ≤ n3 ∧ i = .int .i64 k ∧ Below W7.heap.size W7 wq) (fun _ i _ => n3 - (intOf i).toNat)
      case atStart => exact ⟨rfl, 0, Nat.zero_le _, rfl, Below.refl _ _⟩
      case round =>
        obtain ⟨rfl, k, hk, rfl, hR⟩ := hrel
        obtain ⟨W8, rfl⟩ : ∃ x, x = wr := ⟨wr, rfl⟩
        have HS8 := Lib.hid (HS.out.below hR)
        by_cases hlt : k < n3
        · obtain ⟨x, hx⟩ : ∃ x, lf[k]? = some x := ⟨_, List.getElem?_eq_getElem (by have := HS.out.len; omega)⟩
          obtain ⟨r, hr⟩ : ∃ r, rws[k]? = some r := ⟨_, List.getElem?_eq_getElem (by have := HS.out.len; omega)⟩
          obtain ⟨a1, q1, a2, q2, hre, hcs, hfs⟩ := (HS.out.at_ k r x hr hx).shape
          have hrow : ∀ j u, r[j]? = some u → W8.cell? ⟨g3, k * 4 + j, none⟩ = some u := fun j u hu => HS8.out.cell _ _ (flatK 4 rws k r j u HS.out.four hr hu)
          rw [hre] at hrow
          have x0 := hrow 0 _ rfl
          have x1 := hrow 1 _ rfl
          have x2 := hrow 2 _ rfl
          have x3 := hrow 3 _ rfl
          rw [Nat.add_zero] at x0
          have k0 : (0 : Int) ≤ (k : Int) := by omega
          have k1 : (k : Int) < (n3 : Int) := by omega
          have hfl := HS.out.frs x (List.mem_of_getElem? hx)
          have HST := fun (W : World) (SB : Nat) (hb : Below W8.heap.size W8 W) (hS : W.cell? ⟨SB, 0, none⟩ = some (.string x.name)) => stays_any lf HS.out.len.2.2.2 SB LB x (some ⟨g3, 0, none⟩) n3 c3 a2 q2 W hfl (hfs.below (fun r y hy => hy.below (bstep HS8.out.b hb)) (bstep HS8.out.b hb)) ⟨hS, (HS8.out.below hb).lb.cell 0 _ rfl, (HS8.out.below hb).ls⟩
          have HX := Lib.hid hx
          have HXR := Lib.hid hr
          generalize hbb : staysS lf x = bb at HST
          have HBB := Lib.hid hbb
          have d0 := HS8.out.lb.cell 0 _ rfl
          have dl := HS8.out.lb.lt
          generalize x.cols.length = m1 at *
          generalize x.frn.length = m2 at *
          generalize x.name = nm at *
          generalize x.key = ky at *
          clear hx hr hre hcs hfs hrow hfl hbb c0
          go_upto_region 18 with fail
          have hL9 := (Below.refl W8.heap.size W8).alloc (Nat.le_refl _) (.cells #[.string nm, .slice a1 m1 q1, .int .i64 ky, .slice a2 m2 q2] 28)
          have hb9 := Bx.new W8 28 #[.string nm, .slice a1 m1 q1, .int .i64 ky, .slice a2 m2 q2]
          have HS9 := Lib.hid (HS8.out.below hL9)
          have HST9 := HST _ W8.heap.size hL9 (hb9.cell 0 _ rfl)
          have s3 := hb9.cell 3 _ rfl
          have hR9 := bstep hR hL9
          have hn6 : n3 ≤ 1000000 := by have := HS8.out.len; omega
          clear HST x0 x1 x2 x3 hb9 d0
          generalize W8.alloc (.cells #[.string nm, .slice a1 m1 q1, .int .i64 ky, .slice a2 m2 q2] 28) = W9 at *
          generalize W8.heap.size = SB at *
          cases bb
          · go_upto_region 19 with (go_at_call 25; (with_reducible refine HST9.mono ?_); rintro e W10 ⟨rfl, hb10⟩)
            have HS10 := Lib.hid (HS9.out.below hb10)
            have e0 := HS10.out.lb.cell 0 _ rfl
            have hn3 : n3 ≠ 0 := by omega
            have HCL := clone_rows g3 0 n3 c3 rws.flatten W10 (fun j u hu => by rw [Nat.zero_add]; exact HS10.out.cell j u hu) (by rw [flat_len4 rws HS10.out.four, HS10.out.len.1, HS10.out.len.2.1]) hn3 (by have := HS10.out.len; omega) HS10.out.one
            have HDE := fun g4 c4 W (hF : ClF W10 W g4 n3 c4 rws.flatten) => delete_sch W10 W g4 n3 c4 k rws.flatten hF hlt (by have := HS10.out.len; omega)
            clear HST9 HS9 s3
            go_upto_region 20 with (first | (go_at_call 24; (with_reducible refine HCL.mono ?_); rintro e W11 ⟨g4, c4, rfl, hF⟩; have HF := Lib.hid hF) | (go_at_call 29; (with_reducible refine (HDE _ _ _ HF.out).mono ?_); rintro e W12 ⟨rfl, hcl, hb12⟩; have HCE := Lib.hid hcl; have HS12 := HS10.out.below hb12; have f0 := HS12.lb.cell 0 _ rfl; have f1 := HS12.lb.frozen 0; have f2 := HS12.lb.lt))
            have hD12 := Lib.hid (show DpS w LB U (lf.eraseIdx k) (rws.eraseIdx k) g4 (n3 - 1) c4 (W12.setCell ⟨LB, 0, none⟩ (.slice (some ⟨g4, 0, none⟩) (n3 - 1) c4)) by
              have hlen := HS10.out.len
              have hkr : k < rws.length := by omega
              have hkl : k < lf.length := by omega
              have hg4 := HF.out.hg
              have hlb := HS10.out.lb.lt
              refine ⟨HS12.lb.sett 0 _ (by simp) rfl, fun j u hu => ?_, ⟨by rw [List.length_eraseIdx, List.length_eraseIdx, if_pos hkr, if_pos hkl]; omega, by rw [List.length_eraseIdx, if_pos hkl]; omega, by have := HF.out.cap; omega, by rw [List.length_eraseIdx, if_pos hkl]; omega⟩, fun q hq => HS10.out.four q (List.mem_of_mem_eraseIdx hq), fun i q y hq hy => ?_, HS12.b.setCell (p := ⟨LB, 0, none⟩) HS12.far.1 _, ⟨HS12.far.1, by omega⟩, circ_erase HCC.out HS10.out.sub k x HX.out HBB.out, fun s hs => HS10.out.frs s (List.mem_of_mem_eraseIdx hs)⟩
              · rw [flat_erase rws k HS10.out.four] at hu
                have h1 := HCE.out j u hu
                have hne : g4 ≠ LB := by omega
                rw [World.cell?_setCell_other _ _ _ _ (fun e => hne (by cases e; rfl))]
                exact h1
              · by_cases hik : i < k
                · rw [List.getElem?_eraseIdx_of_lt hik] at hq hy
                  exact HS10.out.at_ i q y hq hy
                · rw [List.getElem?_eraseIdx_of_ge (by omega)] at hq hy
                  exact HS10.out.at_ (i + 1) q y hq hy)
            clear f0 f1 f2 HS12 HCE HF hF hcl hb12 HS10 e0 HCL HDE
            generalize W12.setCell ⟨LB, 0, none⟩ (.slice (some ⟨g4, 0, none⟩) (n3 - 1) c4) = W13 at *
            go_wp2
            go_roundw
            case rel => exact ⟨true, _, _, g4, n3 - 1, c4, rfl, hD12⟩
            case measure =>
              rw [hm.out]
              show lenD W13 LB + 1 < _
              rw [lenD_is hD12.out.lb]
              omega
          · go_wp2_with (go_at_call 25; (with_reducible refine HST9.mono ?_); rintro e W10 ⟨rfl, hb10⟩)
            go_roundw
            case rel => exact ⟨rfl, k + 1, by omega, by go_num, bstep hR9 hb10⟩
            case measure => simp [intOf]; omega
        · have hkn : ¬ (k : Int) < (n3 : Int) := by omega
          go_wp2
          go_roundw
          case rel => exact ⟨false, lf, rws, g3, n3, c3, rfl, HS8⟩
          case measure =>
            rw [hm.out]
            show 0 < _
            omega
set_option maxRecDepth 20000 in
set_option maxHeartbeats 4000000 in
theorem dep_ok (v : Value) (l : List Sch) (w : World) (hs : LsAt w v l) (hg : grL l = false) (h : (allS l).2 = 0) (o : List ByteArray) (ho : ordF l l.length [] = some o) (hbd : l.length ≤ 12 ∧ ∀ s ∈ l, s.frn.length ≤ 20) : Calls Try.prog 7 #[v] w fun e w' => e = .returned (.bool true) ∧ Below w.heap.size w w' := by
  have HOK := Lib.hid (order_ok l h o ho)
  have hol : o.length = l.length := by have := ordF_len l _ _ o ho; simpa using this
  have HG := fun W (h : Below w.heap.size w W) => great_any l v W (hs.below h)
  rw [hg] at HG
  have HA := fun W (h : Below w.heap.size w W) => all_any l v W (hs.below h)
  have HO := fun W (h : Below w.heap.size w W) => order_any l v W (hs.below h)
  have ho2 : ordS l = (o, 0) := by unfold ordS; rw [if_pos h, ho]
  rw [ho2] at HO
  rw [h] at HA
  have HFY := fun (name : ByteArray) (x : Sch) (k : Nat) (hk : fndS name 0 l = k) (hx : l[k]? = some x) W (h : Below w.heap.size w W) => find_yes l (by omega) v name W (hs.below h) x k hk hx
  obtain ⟨a, c, rfl, _⟩ := Nest.form hs
  obtain ⟨n, hn⟩ : ∃ n, n = l.length := ⟨_, rfl⟩
  have HN := Lib.hid hn
  have HOL := Lib.hid hol
  have HBD := Lib.hid hbd
  have HFYH := Lib.hid HFY
  rw [← hn] at HG HA HO HFYH ⊢
  generalize (allS l).1 = t at HA
  clear hs h hn hg ho ho2 hol hbd HFY
  have hn12 : n ≤ 12 := by have := HBD.out.1; have := HN.out; omega
  go_enter Try.func7, Try.ntmps7
  go_upto_region 26 with (first | (go_at_call 10; (with_reducible refine (awake_any _).mono ?_); rintro e w1 ⟨rfl, hb1⟩) | (go_at_call 11; (with_reducible refine (HG _ hb1).mono ?_); rintro e w2 ⟨rfl, hb2⟩; have hw2 := bstep hb1 hb2) | (go_at_call 14; (with_reducible refine (HA _ hw2).mono ?_); rintro e w3 ⟨rfl, hb3⟩; have hw3 := bstep hw2 hb3) | (go_at_call 18; (with_reducible refine (HO _ hw3).mono ?_); rintro e w4 ⟨ov, rfl, hso, hb4⟩; have hw4 := bstep hw3 hb4; obtain ⟨oa, oc, hov⟩ : ∃ a c, ov = .slice a n c := (by obtain ⟨a, c, h, _⟩ := hso.form; rw [HOL.out, ← HN.out] at h; exact ⟨a, c, h⟩); subst hov))
  have HSO := Lib.hid hso
  have HW4 := Lib.hid hw4
  have hcap4 : n ≤ oc := by
    obtain ⟨a', c', e, hc'⟩ := hso.form
    simp only [Value.slice.injEq] at e
    omega
  clear hb1 hb2 hw2 hb3 hw3 hso hb4 hw4 HG HA HO
  go_loopw [91] (fun i wr => ∃ k : Nat, k ≤ n ∧ i = .int .i64 k ∧ Below w4.heap.size w4 wr) (fun i _ => n - (intOf i).toNat)
  case atStart => exact ⟨0, Nat.zero_le _, rfl, Below.refl _ _⟩
  case round =>
    obtain ⟨k, hk, rfl, hR⟩ := hrel
    obtain ⟨W7, rfl⟩ : ∃ x, x = wr := ⟨wr, rfl⟩
    by_cases hlt : k < n
    · obtain ⟨name, hname⟩ : ∃ x, o[k]? = some x := ⟨_, List.getElem?_eq_getElem (by rw [HOL.out, ← HN.out]; exact hlt)⟩
      obtain ⟨q, s, hq, hf, hsn, hc1, hc2⟩ := HOK.out k name hname
      have hSo : Ss W7 (.slice oa n oc) o := HSO.out.below hR
      obtain ⟨og, ooff, ocp, e1, hcell⟩ := (show Sl W7 (.slice oa n oc) o.length 1 (o.map .string) from hSo.1).open (by rw [HOL.out, ← HN.out]; omega)
      simp only [Value.slice.injEq] at e1
      obtain ⟨rfl, he1, rfl⟩ := e1
      clear he1
      have x0 : W7.cell? ⟨og, ooff + k, none⟩ = some (.string name) := hcell k _ (by rw [List.getElem?_map, hname]; rfl)
      have k0 : (0 : Int) ≤ (k : Int) := by omega
      have k1 : (k : Int) < (n : Int) := by omega
      have k2 : (k : Int) ≤ (oc : Int) := by omega
      have hkc : k ≤ oc := by omega
      have HFI := HFYH.out name s q hf hq W7 (bstep HW4.out hR)
      have HCT := fun (x : ByteArray) W (hb : Below W7.heap.size W7 W) => contains_take o x k (some ⟨og, ooff, none⟩) oc oc W (by rw [HOL.out, ← HN.out]; omega) (by rw [HOL.out, ← HN.out]; omega) (by rw [HOL.out, ← HN.out]; exact hSo.below hb)
      have HC0 := HCT name
      rw [hc1] at HC0
      have HC2 := Lib.hid hc2
      have HSN := Lib.hid hsn
      have hfl : s.frn.length ≤ 20 := HBD.out.2 s (List.mem_of_getElem? hq)
      have HCTH := Lib.hid HCT
      clear HCT hq hf hsn hc1 hc2 hname hSo hcell
      go_upto_region 29 with (go_at_call 30; (with_reducible refine HFI.mono ?_); rintro e W8 ⟨a1, a2, c1, c2, rfl, hcs, hfs, hb8⟩)
      have hfs9 := hfs.below (fun r y hy => hy.below ((Below.refl W8.heap.size W8).alloc (Nat.le_refl _) (.cells #[.string s.name, .slice a1 s.cols.length c1, .int .i64 s.key, .slice a2 s.frn.length c2] 28))) ((Below.refl W8.heap.size W8).alloc (Nat.le_refl _) (.cells #[.string s.name, .slice a1 s.cols.length c1, .int .i64 s.key, .slice a2 s.frn.length c2] 28))
      have hb9 := Bx.new W8 28 #[.string s.name, .slice a1 s.cols.length c1, .int .i64 s.key, .slice a2 s.frn.length c2]
      have hL9 : Below W7.heap.size W7 (W8.alloc (.cells #[.string s.name, .slice a1 s.cols.length c1, .int .i64 s.key, .slice a2 s.frn.length c2] 28)) := hb8.alloc hb8.size _
      clear HFI hcs hfs hb8 x0
      obtain ⟨m, hm⟩ : ∃ m, m = s.frn.length := ⟨_, rfl⟩
      have HM := Lib.hid hm
      rw [← hm] at hfs9 hb9 hL9 hfl ⊢
      generalize s.cols.length = m1 at *
      generalize s.name = nm at *
      generalize s.key = ky at *
      clear hm
      generalize W8.alloc (.cells #[.string nm, .slice a1 m1 c1, .int .i64 ky, .slice a2 m c2] 28) = W9 at *
      generalize W8.heap.size = SB at *
      have s3 := hb9.cell 3 _ rfl
      have HFS := Lib.hid hfs9
      clear hfs9
      go_upto_region 32 with (go_at_call 31; (with_reducible refine (HC0 _ hL9).mono ?_); rintro e W10 ⟨rfl, rfl⟩)
      clear HC0 s3 hb9
      go_loopw [114] (fun i wr => ∃ j : Nat, j ≤ m ∧ i = .int .i64 j ∧ Below W9.heap.size W9 wr) (fun i _ => m - (intOf i).toNat)
      case atStart => exact ⟨0, Nat.zero_le _, rfl, Below.refl _ _⟩
      case round =>
        obtain ⟨j, hj, rfl, hR2⟩ := hrel
        obtain ⟨W11, rfl⟩ : ∃ x, x = wr := ⟨wr, rfl⟩
        by_cases hlt2 : j < m
        · obtain ⟨g3, off3, cp3, e1, hc3⟩ := fs_get (HM.out ▸ HFS.out : FsAt W9 (.slice a2 s.frn.length c2) s.frn) (by rw [← HM.out]; omega)
          simp only [Value.slice.injEq] at e1
          obtain ⟨rfl, he1, rfl⟩ := e1
          clear he1
          obtain ⟨f, hf⟩ : ∃ f, s.frn[j]? = some f := ⟨_, List.getElem?_eq_getElem (by rw [← HM.out]; exact hlt2)⟩
          obtain ⟨ta, tc, _, _, t0, t1⟩ := hc3 j f hf
          have b0 := Go.Proofs.Ytokbipfkpojflaa.Sl.cell_kept t0 hR2
          have b1 := Go.Proofs.Ytokbipfkpojflaa.Sl.cell_kept t1 hR2
          have j0 : (0 : Int) ≤ (j : Int) := by omega
          have j1 : (j : Int) < (m : Int) := by omega
          have hcase := HC2.out f (List.mem_of_getElem? hf)
          have HCW := fun W (hb : Below W11.heap.size W11 W) => HCTH.out f.tab W (bstep (bstep hL9 hR2) hb)
          generalize f.cols.length = fl at *
          generalize f.tab = tab at *
          clear hc3 hf t0 t1
          go_upto_region 34 with fail
          have hL12 := (Below.refl W11.heap.size W11).alloc (Nat.le_refl _) (.cells #[.slice ta fl tc, .string tab] 55)
          have hb12 := Bx.new W11 55 #[.slice ta fl tc, .string tab]
          have u1 := cell_regrown (hb12.cell 1 _ rfl)
          clear b0 b1 hb12
          generalize W11.alloc (.cells #[.slice ta fl tc, .string tab] 55) = W12 at *
          have hL12' : Below W11.heap.size W11 W12 := hL12
          generalize hFB : W11.heap.size = FB at u1 ⊢
          have HFB := Lib.hid hFB
          clear hFB
          by_cases htn : tab = name
          · have hbq : (tab.toList == name.toList) = true := (Lib.bytes_beq_iff tab name).2 htn
            clear htn hcase
            refine wp_region_quiet_below (by kernel_rfl) (by kernel_rfl) ?_
            repeat (go_big_quiet_step (fail))
            refine wpQuiet_nil ?_
            intro _ hw9
            obtain ⟨⟨dq, osq⟩, hw9⟩ := hw9
            subst hw9
            have hL13 := bstep hL12' (below_regrown W12 dq osq)
            go_wp2
            go_roundw
            case rel => exact ⟨j + 1, by omega, by go_num, bstep hR2 hL13⟩
            case measure => simp [intOf]; omega
          · have hbq : (tab.toList == name.toList) = false := (Lib.bytes_beq_false_iff tab name).2 htn
            have hct : Lib.containsS (o.take k) tab = true := by
              rcases hcase with h | h
              · exact absurd h htn
              · exact h
            have HCV : ∀ W, Below W11.heap.size W11 W → Calls Try.prog 31 #[.slice (some ⟨og, ooff, none⟩) k oc, .string tab] W fun e w' => e = .returned (.bool true) ∧ Below W.heap.size W w' := fun W hb => (HCW W hb).mono (by
              rintro e w' ⟨rfl, rfl⟩
              exact ⟨by rw [hct], Below.refl _ _⟩)
            clear htn hcase hct HCW
            refine wp_region_quiet_below (by kernel_rfl) (by kernel_rfl) ?_
            repeat (go_big_quiet_step (first | (go_at_call 31; with_reducible exact Calls.regrown_of (HCV _ (bstep hL12' (below_regrown _ _ _))))))
            refine wpQuiet_nil ?_
            intro _ hw9
            obtain ⟨⟨dq, osq⟩, hw9⟩ := hw9
            subst hw9
            have hL13 := bstep hL12' (below_regrown W12 dq osq)
            go_wp2
            go_roundw
            case rel => exact ⟨j + 1, by omega, by go_num, bstep hR2 hL13⟩
            case measure => simp [intOf]; omega
        · have hjm : ¬ (j : Int) < (m : Int) := by omega
          go_wp2
          go_roundw
          case rel => exact ⟨k + 1, by omega, by go_num, bstep hR (bstep hL9 hR2)⟩
          case measure => simp [intOf]; omega
    · have hkn : ¬ (k : Int) < (n : Int) := by omega
      go_wp2
      go_ret
      exact ⟨rfl, bstep HW4.out hR⟩
theorem schemaDepends_walk (v : Value) (l : List Sch) (w : World) (hs : LsAt w v l) (hl : l.length ≤ 9223372036854775807) (hg : ∀ s ∈ l, szS s) : Calls Try.prog 7 #[v] w fun e w' => e = .returned (.bool true) ∧ Below w.heap.size w w' := by
  cases hgl : grL l
  · have hb : l.length ≤ 12 ∧ ∀ s ∈ l, s.frn.length ≤ 20 := by
      have h := hgl
      unfold grL at h
      simp only [Bool.or_eq_false_iff, decide_eq_false_iff_not, List.any_eq_false] at h
      refine ⟨by omega, fun s hs => ?_⟩
      have h2 := h.2 s hs
      unfold grS at h2
      simp only [Bool.or_eq_true, decide_eq_true_eq, not_or, Bool.not_eq_true] at h2
      omega
    by_cases ha : (allS l).2 = 0
    · cases ho : ordF l l.length [] with
      | none => exact dep_circ v l w hs hgl ha ho hb
      | some o => exact dep_ok v l w hs hgl ha o ho hb
    · exact dep_bad v l w hs hgl ha
  · exact dep_great v l w hs hgl
end Go.Proofs.Ytokbipfkpojflaa.Sc
