/-
  Networks: Points (layer 46). Written by gen_nyb.py.
-/
import Derived.Test.YtoadihclmnjjnaaNyA
import Derived.Test.YtoadihclmnjjnaaNyS
import Derived.Test.YtoadihclmnjjnaaNwT
import Derived.Test.YtoadihclmnjjnaaNxV
import Derived.Test.YtoadihclmnjjnaaLast
import Derived.Lib.QuietBelow
set_option linter.unusedSimpArgs false
set_option linter.unusedVariables false
set_option maxRecDepth 100000
namespace Go.Proofs.Ytoadihclmnjjnaa.Nw
open Go Go.RowKit Go.ChangeShapes Go.WideShapes Go.Proofs.Ytoadihclmnjjnaa.Sl Go.Proofs.Ytoadihclmnjjnaa.Al Go.Lib
open Go.Proofs.Ytoadihclmnjjnaa.Iv (validB ofZ sgn)

theorem DH.cell {w : World} {D : Nat} {d : Nat → Nat} (h : DH w D d) {p : Nat} (hp : p < 4) : w.cell? ⟨D, p, none⟩ = some (.int .i64 ((d p : Nat) : Int)) := by
  rw [cell_of_row _ _ p _ _ _ h]
  simp [List.getElem?_range hp, hp]
theorem DH.frozen {w : World} {D : Nat} {d : Nat → Nat} (h : DH w D d) (p : Nat) : w.frozen? ⟨D, p, none⟩ = false := frozen_of_row w D p _ _ h
theorem DH.lt {w : World} {D : Nat} {d : Nat → Nat} (h : DH w D d) : D < w.heap.size := (Array.getElem?_eq_some_iff.1 h).1
theorem DH.congr {w : World} {D : Nat} {d e : Nat → Nat} (h : DH w D d) (he : ∀ p, p < 4 → e p = d p) : DH w D e := by
  have : ((List.range 4).map fun p => Value.int .i64 ((e p : Nat) : Int)) = ((List.range 4).map fun p => Value.int .i64 ((d p : Nat) : Int)) := List.map_congr_left fun p hp => by rw [he p (List.mem_range.1 hp)]
  unfold DH
  rw [this]; exact h
theorem DH.at {w w' : World} {D : Nat} {d : Nat → Nat} (h : DH w D d) (hb : w'.heap[D]? = w.heap[D]?) : DH w' D d := hb.trans h
theorem DH.set {w : World} {D : Nat} {d : Nat → Nat} (h : DH w D d) {p : Nat} (hp : p < 4) (x : Nat) : DH (w.setCell ⟨D, p, none⟩ (.int .i64 ((x : Nat) : Int))) D (fun k => if k = p then x else d k) := by
  unfold DH
  rw [heap_setCell_same _ _ _ _ _ _ h]
  congr 3
  rcases (show p = 0 ∨ p = 1 ∨ p = 2 ∨ p = 3 by omega) with rfl | rfl | rfl | rfl <;> rfl
theorem enter_p1 (args : Array Value) (w : World) : (callFunc 80 args).run Try.prog w = .ok (.enter 80 args) w := by simp [go_sem, Try.func80]
theorem points1_any (r : Rl) (w : World) : Calls Try.prog 80 #[.agg #[.int .i64 r.i, .int .i64 r.j, .int .i64 r.s]] w fun e w' => e = .returned (.bool (r.s == 0)) ∧ Below w.heap.size w w' := by
  obtain ⟨i, j, s⟩ := r
  dsimp only
  go_enter Try.func80, Try.ntmps80
  go_wp2
  go_ret
  exact ⟨rfl, by go_grown⟩
/-- What Points leaves behind, for a valid network. -/
def PtE (n : Nat) (l : List Rl) (w : World) (e : Ending) (w' : World) : Prop := Below w.heap.size w w' ∧
  ((l.any (fun r => r.s == 0) = true ∧ e = .returned (.tuple #[.slice none 0 0, .slice none 0 0, .int .i64 17])) ∨
   (l.any (fun r => r.s == 0) = false ∧ (l.any fun r => !expr r) = true ∧ e = .returned (.tuple #[.slice none 0 0, .slice none 0 0, .int .i64 18])) ∨
   (l.any (fun r => r.s == 0) = false ∧ (l.any fun r => !expr r) = false ∧ ∃ v7 v9, e = .returned (.tuple #[v7, v9, .int .i64 0]) ∧ Bf w w' v7 (allB n l) ∧ Cf w w' v9 (allC l)))
theorem heap_far {w w' : World} {base b n size : Nat} {t t' : TypeId} {v : Value} {xs : List Value} {cs : Array Value} (hv : w.ownsRow base t size v n xs) (hg : w.grownBy w' v.ownBlock) (h : w.heap[b]? = some (.cells cs t' (0, 0))) (ht : t ≠ t') : w'.heap[b]? = some (.cells cs t' (0, 0)) :=
  (hg.block b (Array.getElem?_eq_some_iff.1 h).1 (not_row hv h ht)).trans h
def emX (a b : Int) (d : Nat) : List Rl :=
  if d = 4 then [⟨b, a, -1⟩] else if d = 6 then [⟨b, a, 0⟩] else if d = 1 then [⟨a, b, -1⟩] else if d = 3 then [⟨a, b, 0⟩] else if d = 2 then [⟨b, a, 0⟩, ⟨a, b, 0⟩] else []
def emY (a b : Int) (d : Nat) : List (Int × Int) := if d = 5 then [(a, b)] else []
theorem emB_eq (i j : Int) (d p : Nat) : emB i j d p = emX (2 * i + ((p / 2 : Nat) : Int)) (2 * j + ((p % 2 : Nat) : Int)) d := rfl
theorem emC_eq (i j : Int) (d p : Nat) : emC i j d p = emY (2 * i + ((p / 2 : Nat) : Int)) (2 * j + ((p % 2 : Nat) : Int)) d := rfl
theorem allB_len (n : Nat) (l : List Rl) (m : Nat) (r : Rl) : (allB n l ++ rlB r m).length ≤ n + 8 * l.length + 2 * m := by
  have e1 : ∀ (i j : Int) (d p : Nat), (emB i j d p).length ≤ 2 := by
    intro i j d p
    unfold emB
    repeat' split
    all_goals simp
  have e2 : ∀ (r : Rl) (m : Nat), (rlB r m).length ≤ 2 * m := by
    intro r m
    induction m with
    | zero => simp [rlB]
    | succ m ih =>
      rw [rlB_succ, List.length_append]
      have := e1 r.i r.j (dTo (singF r.s.toNat) m) m
      omega
  have e3 : ∀ l : List Rl, (l.flatMap fun r => rlB r 4).length ≤ 8 * l.length := by
    intro l
    induction l with
    | nil => simp
    | cons r l ih =>
      rw [List.flatMap_cons, List.length_append, List.length_cons]
      have := e2 r 4
      omega
  have h1 := e3 l
  have h2 := e2 r m
  unfold allB bnd0
  rw [List.length_append, List.length_append, List.length_map, List.length_range]
  omega
theorem allC_len (l : List Rl) (m : Nat) (r : Rl) : (allC l ++ rlC r m).length ≤ 4 * l.length + m := by
  have e1 : ∀ (i j : Int) (d p : Nat), (emC i j d p).length ≤ 1 := by
    intro i j d p
    unfold emC
    split
    all_goals simp
  have e2 : ∀ (r : Rl) (m : Nat), (rlC r m).length ≤ m := by
    intro r m
    induction m with
    | zero => simp [rlC]
    | succ m ih =>
      rw [rlC_succ, List.length_append]
      have := e1 r.i r.j (dTo (singF r.s.toNat) m) m
      omega
  have e3 : ∀ l : List Rl, (l.flatMap fun r => rlC r 4).length ≤ 4 * l.length := by
    intro l
    induction l with
    | nil => simp
    | cons r l ih =>
      rw [List.flatMap_cons, List.length_append, List.length_cons]
      have := e2 r 4
      omega
  have h1 := e3 l
  have h2 := e2 r m
  unfold allC
  rw [List.length_append]
  omega
theorem points_bad (n : Int) (l : List Rl) (s : Value) (w : World) (hs : Rs w s l) (hv : vldN n l = false) : Calls Try.prog 38 #[.int .i64 n, s] w fun e w' => e = .returned (.tuple #[.slice none 0 0, .slice none 0 0, .int .i64 1]) ∧ Below w.heap.size w w' := by
  have HV := nvalid_any n l s w hs
  rw [hv] at HV
  clear hs hv
  go_enter Try.func38, Try.ntmps38
  go_wp2_with (go_at_call 19; (with_reducible refine HV.mono ?_); rintro e w1 ⟨rfl, hb1⟩)
  refine bodyPost_ret (by simp [results, Try.results38, go_sem]; try rfl) rfl ?_
  exact ⟨rfl, hb1⟩
set_option maxHeartbeats 8000000 in
theorem points_ok (n : Nat) (l : List Rl) (s : Value) (w : World) (hs : Rs w s l) (hv : vldN (n : Int) l = true) : Calls Try.prog 38 #[.int .i64 (n : Int), s] w (PtE n l w) := by
  obtain ⟨k, hk, n0, n8, l200, hok⟩ := vld_ok hv
  obtain rfl : n = k := by omega
  have HV := nvalid_any (n : Int) l s w hs
  rw [hv] at HV
  have HX := fun (W : World) (h : Below w.heap.size w W) => contains_rel 80 enter_p1 #[] (fun r => r.s == 0) (fun _ => True) (fun _ _ _ _ => trivial) l (fun W p _ _ => points1_any p W) s W (hs.below h) trivial
  obtain ⟨ad, c, rfl⟩ := hs.form
  obtain ⟨q, hq⟩ : ∃ q, q = l.length := ⟨_, rfl⟩
  have HQ := Lib.hid hq
  have HS := Lib.hid hs
  have HOK := Lib.hid hok
  rw [← hq] at HV HX HS ⊢
  have q200 : (q : Int) ≤ 200 := by omega
  clear hs hv hk hq hok
  cases hz : l.any fun r => r.s == 0
  case true =>
    rw [hz] at HX
    have HZ := Lib.hid hz
    clear hz
    go_enter Try.func38, Try.ntmps38
    go_wp2_with (first | (go_at_call 19; (with_reducible refine HV.mono ?_); rintro e w1 ⟨rfl, hb1⟩) | (go_at_call 59; (with_reducible refine (HX _ hb1).mono ?_); rintro e w2 ⟨rfl, hb2⟩))
    refine bodyPost_ret (by simp [results, Try.results38, go_sem]; try rfl) rfl ?_
    exact ⟨bstep hb1 hb2, Or.inl ⟨HZ.out, rfl⟩⟩
  rw [hz] at HX
  have HZ := Lib.hid hz
  clear hz
  go_enter Try.func38, Try.ntmps38
  go_wp2_with (first | (go_at_call 19; (with_reducible refine HV.mono ?_); rintro e w1 ⟨rfl, hb1⟩) | (go_at_call 59; (with_reducible refine (HX _ hb1).mono ?_); rintro e w2 ⟨rfl, hb2⟩))
  have hBW : Below w.heap.size w w2 := bstep hb1 hb2
  clear hb1 hb2 HX HV
  have HB0 := Lib.hid (show Bf w w2 (.slice none 0 0) (bnd0 0) from ⟨World.ownsRow_nil _ _ _ _, hBW⟩)
  go_loopw [7, 32] (fun v iv wr => ∃ i : Nat, i ≤ n ∧ iv = .int .i64 (i : Int) ∧ Hid (Bf w wr v (bnd0 i))) (fun _ iv _ => n - (RowKit.intOf iv).toNat)
  case atStart => exact ⟨0, Nat.zero_le _, rfl, HB0⟩
  case round =>
    clear hBW HB0
    obtain ⟨i, hi, rfl, hB⟩ := hrel
    by_cases hin : i < n
    · have hwa : IntKind.i64.wrap (2 * (i : Int)) = 2 * (i : Int) := IntWalk.i64_in _ (by omega)
      have hwb : IntKind.i64.wrap (2 * (i : Int) + 1) = 2 * (i : Int) + 1 := IntWalk.i64_in _ (by omega)
      have hlen : (bnd0 i).length ≤ 1000000 := by unfold bnd0; rw [List.length_map, List.length_range]; omega
      go_wp2_with (at_builtin; refine wp_bnd hB.out rfl (.tmp 35) (.tmp 42) rfl rfl 68 rfl (by simp) ⟨2 * (i : Int) + 1, 2 * (i : Int), -1⟩ hlen ?_; intro v1 w1 hB1 _)
      have HB1 := Lib.hid (show Bf w w1 v1 (bnd0 (i + 1)) by rw [bnd0_succ]; exact hB1)
      clear hB1
      go_roundw
      case rel => exact ⟨i + 1, by omega, by go_num, HB1⟩
      case measure => simp [RowKit.intOf]; omega
    · obtain rfl : n = i := by omega
      have HBS := Lib.hid (show Bf w wr _ (allB n (l.take 0)) by unfold allB; simpa using hB.out)
      have HCS := Lib.hid (show Cf w wr (.slice none 0 0) (allC (l.take 0)) from ⟨[], rfl, World.ownsRow_nil _ _ _ _, hB.out.2, nofun⟩)
      have HES := Lib.hid (show ((l.take 0).any fun r => !expr r) = false from rfl)
      clear hB
      go_wp2
      go_loopw [7, 9, 47] (fun v7 v9 qv wr => ∃ k : Nat, k ≤ q ∧ qv = .int .i64 (k : Int) ∧ Hid (Bf w wr v7 (allB n (l.take k))) ∧ Hid (Cf w wr v9 (allC (l.take k))) ∧ Hid (((l.take k).any fun r => !expr r) = false)) (fun _ _ qv _ => q - (RowKit.intOf qv).toNat)
      case atStart => exact ⟨0, Nat.zero_le _, rfl, HBS, HCS, HES⟩
      case round =>
        clear HBS HCS HES
        obtain ⟨k, hk, rfl, hB, hC, hE⟩ := hrel
        by_cases hkq : k < q
        · obtain ⟨gl, ol, cl, e2, hcr⟩ := (HS.out.below hB.out.2).get (by rw [← HQ.out]; omega)
          rw [← HQ.out] at e2
          cases e2
          obtain ⟨x, ht⟩ : ∃ t, l[k]? = some t := ⟨_, List.getElem?_eq_getElem (by rw [← HQ.out]; exact hkq)⟩
          have HT := Lib.hid ht
          obtain ⟨i, j, s, rfl, hi2, hj2, hs8⟩ := HOK.out x (List.mem_of_getElem? ht)
          obtain ⟨z0, z1, z2⟩ := hcr k _ ht
          dsimp only at z0 z1 z2
          have k0 : (0 : Int) ≤ (k : Int) := by omega
          have k1 : (k : Int) < (q : Int) := by omega
          have HSN := fun W => singles2_any s hs8 W
          clear hcr ht
          go_upto_region 16 with fail
          obtain ⟨W1, hW1⟩ : ∃ W1, W1 = (wr.alloc (.cells #[.int .i64 (i : Int), .int .i64 (j : Int), .int .i64 (s : Int)] 30)).alloc (.cells #[.int .i64 0, .int .i64 0, .int .i64 0, .int .i64 0] 98) := ⟨_, rfl⟩
          have hb1 : Below wr.heap.size wr W1 := by rw [hW1]; exact ((Below.refl _ _).alloc (Nat.le_refl _) _).alloc (by simp) _
          have hRC : W1.heap[wr.heap.size]? = some (.cells #[.int .i64 (i : Int), .int .i64 (j : Int), .int .i64 (s : Int)] 30 (0, 0)) := by
            rw [hW1, Below.heap_alloc _ _ _ (by simp)]
            exact heap_alloc_new wr _
          have hD : DH W1 (wr.heap.size + 1) (fun _ => 0) := by
            have := heap_alloc_new (wr.alloc (.cells #[.int .i64 (i : Int), .int .i64 (j : Int), .int .i64 (s : Int)] 30)) (.cells #[.int .i64 0, .int .i64 0, .int .i64 0, .int .i64 0] 98)
            rw [hW1]
            rw [World.size_alloc] at this
            exact this
          obtain ⟨RC, hRCe⟩ : ∃ b, b = wr.heap.size := ⟨_, rfl⟩
          obtain ⟨D, hDe⟩ : ∃ b, b = wr.heap.size + 1 := ⟨_, rfl⟩
          rw [← hW1]
          rw [← hDe] at hD ⊢
          rw [← hRCe] at hRC ⊢
          have HBS := Lib.hid (fun W (h : Below D W1 W) => (show Bf w W _ (allB n (l.take k)) ∧ Cf w W _ (allC (l.take k)) ∧ W.heap[RC]? = some (.cells #[.int .i64 (i : Int), .int .i64 (j : Int), .int .i64 (s : Int)] 30 (0, 0)) from ⟨hB.out.step (hb1.trans (h.mono (by omega))), hC.out.step (hb1.trans (h.mono (by omega))), (h.block RC (by omega)).trans hRC⟩))
          have HORD := Lib.hid (show D = RC + 1 ∧ W1.heap.size = D + 1 from ⟨by omega, by rw [hW1]; simp; omega⟩)
          have c2 : W1.cell? ⟨RC, 2, none⟩ = some (.int .i64 (s : Int)) := by rw [cell_of_row _ _ 2 _ _ _ hRC]; rfl
          have HRC := Lib.hid hRC
          have HD := Lib.hid hD
          clear hW1 hb1 hRC hD hRCe hDe hB hC z0 z1 z2
          go_upto_region 17 with (go_at_call 37; (with_reducible refine (HSN _).mono ?_); rintro e W2 ⟨sv, rfl, hown, hb2⟩; obtain ⟨sa, sc, rfl⟩ := (Sl.of_owns hown).form)
          obtain ⟨m, hm⟩ : ∃ m, m = (singF s).length := ⟨_, rfl⟩
          rw [← hm] at hown ⊢
          have hm13 : m ≤ 13 := by
            rw [hm]; unfold singF
            exact Nat.le_trans (List.length_filter_le _ _) (by simp)
          have hlD : D < W1.heap.size := by have := HORD.out.2; omega
          have hDH2 : DH W2 D (fun _ => 0) := HD.out.at (hb2.block D hlD)
          have HCE := Lib.hid (fun (k3 : Nat) (y : Fin 13) (h : (singF s)[k3]? = some y) => (show ∃ g, sa = some ⟨g, 0, none⟩ ∧ D < g ∧ W2.cell? ⟨g, k3, none⟩ = some (.int .i64 (y.val : Int)) by
            have hk3 : k3 < m := by rw [hm]; exact (List.getElem?_eq_some_iff.1 h).1
            obtain ⟨g, cap, e, h1, _⟩ := hown.form (by omega)
            cases e
            refine ⟨g, rfl, by have := HORD.out.2; omega, ?_⟩
            rw [hown.cellAt k3 (by omega), List.getElem?_map, h]; rfl))
          have HM := Lib.hid hm
          have HB2 := Lib.hid hb2
          have HDH2 := Lib.hid (show DH W2 D (dTo ((singF s).take 0)) from hDH2)
          clear hown hb2 hDH2 hm
          go_loopw [55] (fun kv wr => ∃ k3 : Nat, k3 ≤ m ∧ kv = .int .i64 (k3 : Int) ∧ Hid (DH wr D (dTo ((singF s).take k3))) ∧ Md (fun b => b = D) W2 wr) (fun kv _ => m - (RowKit.intOf kv).toNat)
          case atStart => exact ⟨0, Nat.zero_le _, rfl, HDH2, Md.refl _ _⟩
          case round =>
            clear HDH2
            obtain ⟨k3, hk3, rfl, hDH, hMd⟩ := hrel
            by_cases hk3m : k3 < m
            · obtain ⟨y, hy⟩ : ∃ y, (singF s)[k3]? = some y := ⟨_, List.getElem?_eq_getElem (by rw [← HM.out]; exact hk3m)⟩
              obtain ⟨g, rfl, hgD, cy⟩ := HCE.out k3 y hy
              have cy := hMd.kept cy (by omega)
              have t0 : (0 : Int) ≤ (k3 : Int) := by omega
              have t1 : (k3 : Int) < (m : Int) := by omega
              have HTK := Lib.hid (show (singF s).take (k3 + 1) = (singF s).take k3 ++ [y] by rw [List.take_add_one, hy]; rfl)
              have HSG := fun W => signs_any y.val y.isLt W
              clear hy
              go_wp2_with (go_at_call 76; (with_reducible refine (HSG _).mono ?_); rintro e w5 ⟨rfl, hb5⟩; have hDH5 := Lib.hid (hDH.out.at (hb5.block D hDH.out.lt)); have hMd5 := hMd.step hb5; clear hb5)
              clear hDH hMd cy
              go_loopw [61] (fun pv wr => ∃ p : Nat, p ≤ 4 ∧ pv = .int .i64 (p : Int) ∧ Hid (DH wr D (fun u => if u < p then dTo ((singF s).take (k3 + 1)) u else dTo ((singF s).take k3) u)) ∧ Md (fun b => b = D) W2 wr) (fun pv _ => 4 - (RowKit.intOf pv).toNat)
              case atStart => exact ⟨0, Nat.zero_le _, rfl, Lib.hid (hDH5.out.congr (fun u _ => by rw [if_neg (by omega)])), hMd5⟩
              case round =>
                clear hDH5 hMd5
                obtain ⟨p, hp, rfl, hDH, hMd⟩ := hrel
                by_cases hp4 : p < 4
                · have p0 : (0 : Int) ≤ (p : Int) := by omega
                  have p1 : (p : Int) < 4 := by omega
                  have HIX := fun W => run_ix98 y.val p hp4 W
                  obtain ⟨hsg, hsg2⟩ := sg1_bd y.val y.isLt p hp4
                  have hwt : IntKind.i64.wrap (sgT y.val p + 1) = ((sg1 y.val p : Nat) : Int) := by rw [hsg]; exact IntWalk.i64_in _ (by omega)
                  have d1 := hDH.out.cell hp4
                  rw [if_neg (by omega)] at d1
                  have f1 := hDH.out.frozen p
                  have lD := hDH.out.lt
                  have hdv := dTo_lt ((singF s).take k3) hp4
                  have HNX := Lib.hid (show dTo ((singF s).take (k3 + 1)) p = dTo ((singF s).take k3) p ||| 2 ^ sg1 y.val p by rw [HTK.out, dTo_snoc])
                  have hor : bits .or .i64 ((dTo ((singF s).take k3) p : Nat) : Int) ((pw (sg1 y.val p) : Nat) : Int) = ((dTo ((singF s).take k3) p ||| 2 ^ sg1 y.val p : Nat) : Int) := Bt.bits_or _ _ (by omega) (by have := pow_lt (sg1 y.val p) (by omega); unfold pw; omega)
                  have hp9 := wrap_pw (sg1 y.val p) (by omega)
                  have m0 : (0 : Int) ≤ ((sg1 y.val p : Nat) : Int) := by omega
                  have m1 : ((sg1 y.val p : Nat) : Int) < 13 := by omega
                  clear hsg hsg2 hdv
                  generalize sgT y.val p = sv at *
                  generalize sg1 y.val p = mm at *
                  generalize hdd : dTo ((singF s).take k3) p = dv at *
                  have HDD := Lib.hid hdd
                  clear hdd
                  go_upto_region 22 with fail
                  have z0 := cell_regrown d1
                  have HD1 := Lib.hid d1
                  have HF1 := Lib.hid f1
                  clear d1 f1
                  refine Lst.wp_region_below_lastN 8 rfl rfl (by kernel_rfl) (by kernel_rfl) (by kernel_rfl) ?_
                  simp only [List.take_succ_cons, List.take_zero]
                  repeat (go_big_quiet_step (fail))
                  refine wpQuiet_nil ?_
                  intro w9 hb9
                  refine ⟨by rfl, ?_⟩
                  have d1 := Go.Proofs.Ytoadihclmnjjnaa.Sl.cell_kept HD1.out hb9
                  have f1 : w9.frozen? ⟨D, p, none⟩ = false := (hb9.frozen (p := ⟨D, p, none⟩) lD).trans HF1.out
                  clear z0
                  go_simp
                  have hDH9 := (hDH.out.at (hb9.block D lD)).set hp4 (dv ||| 2 ^ mm)
                  have hMd9 : Md (fun b => b = D) W2 (w9.setCell ⟨D, p, none⟩ (.int .i64 ((dv ||| 2 ^ mm : Nat) : Int))) := (hMd.step hb9).setCell p (Or.inl rfl) _
                  have HDH9 := Lib.hid hDH9
                  clear d1 f1 hb9 hDH hMd hDH9
                  generalize (w9.setCell ⟨D, p, none⟩ (.int .i64 ((dv ||| 2 ^ mm : Nat) : Int))) = W9 at *
                  go_wp2
                  go_roundw
                  case rel => exact ⟨p + 1, by omega, by go_num, Lib.hid (HDH9.out.congr (fun u hu => by
                    by_cases e : u = p
                    · subst e
                      rw [if_pos (by omega), if_pos rfl, HNX.out]
                    · rw [if_neg e]
                      by_cases e2 : u < p
                      · rw [if_pos (by omega), if_pos e2]
                      · rw [if_neg (by omega), if_neg e2])), hMd9⟩
                  case measure => simp [RowKit.intOf]; omega
                · obtain rfl : 4 = p := by omega
                  have HDH9 := Lib.hid (hDH.out.congr (e := dTo ((singF s).take (k3 + 1))) (fun u hu => by rw [if_pos hu]))
                  clear hDH
                  go_wp2
                  go_roundw
                  case rel => exact ⟨k3 + 1, by omega, by go_num, HDH9, hMd⟩
                  case measure => simp [RowKit.intOf]; omega
            · obtain rfl : m = k3 := by omega
              have hDH3 := hDH.out.congr (e := dTo (singF s)) (fun u hu => by rw [HM.out, List.take_length])
              have lD3 := hDH3.lt
              have hb3 : Below D W1 wr := (HB2.out.mono (by have := HORD.out.2; omega)).trans (hMd.below (by have := HB2.out.size; have := HORD.out.2; omega) (fun u hu => by omega))
              have HB3 := Lib.hid hb3
              obtain ⟨W3, rfl⟩ : ∃ x, x = wr := ⟨wr, rfl⟩
              obtain ⟨hB3, hC3, hRC3⟩ := HBS.out W3 hb3
              have HBF := Lib.hid hB3
              have HCF := Lib.hid hC3
              have cS : W3.cell? ⟨RC, 2, none⟩ = some (.int .i64 (s : Int)) := by rw [cell_of_row _ _ 2 _ _ _ hRC3]; rfl
              have cI : W3.cell? ⟨RC, 0, none⟩ = some (.int .i64 (i : Int)) := by rw [cell_of_row _ _ 0 _ _ _ hRC3]; rfl
              have cJ : W3.cell? ⟨RC, 1, none⟩ = some (.int .i64 (j : Int)) := by rw [cell_of_row _ _ 1 _ _ _ hRC3]; rfl
              have HCS := Lib.hid (show W3.cell? ⟨RC, 2, none⟩ = some (.int .i64 (s : Int)) ∧ W3.heap[RC]? = some (.cells #[.int .i64 (i : Int), .int .i64 (j : Int), .int .i64 (s : Int)] 30 (0, 0)) from ⟨cS, hRC3⟩)
              have HD3 := Lib.hid hDH3
              have HDL := Lib.hid (fun p (hp : p < 4) => dTo_lt (singF s) hp)
              clear hDH hMd hDH3 hb3 hB3 hC3 hRC3 cS cI cJ c2 HCE
              go_wp2
              go_loopw [17, 75] (fun ev kv wr => ∃ k5 : Nat, k5 ≤ 13 ∧ ev = .int .i64 ((expd (dTo (singF s)) k5 : Nat) : Int) ∧ kv = .int .i64 (k5 : Int) ∧ Below W3.heap.size W3 wr) (fun _ kv _ => 13 - (RowKit.intOf kv).toNat)
              case atStart => exact ⟨0, Nat.zero_le _, rfl, rfl, Below.refl _ _⟩
              case round =>
                obtain ⟨k5, hk5, rfl, rfl, hL5⟩ := hrel
                by_cases hk13 : k5 < 13
                · have HSG := fun W => signs_any k5 hk13 W
                  have t0 : (0 : Int) ≤ (k5 : Int) := by omega
                  have t1 : (k5 : Int) < 13 := by omega
                  have hp8 := wrap_pw k5 (by omega)
                  have hel := expd_lt (dTo (singF s)) k5 (by omega)
                  have hor : bits .or .i64 ((expd (dTo (singF s)) k5 : Nat) : Int) ((pw k5 : Nat) : Int) = ((expd (dTo (singF s)) k5 ||| 2 ^ k5 : Nat) : Int) := Bt.bits_or _ _ (by omega) (by have := pow_lt k5 (by omega); unfold pw; omega)
                  have HES := Lib.hid (show expd (dTo (singF s)) (k5 + 1) = if insd (dTo (singF s)) k5 4 = true then expd (dTo (singF s)) k5 ||| 2 ^ k5 else expd (dTo (singF s)) k5 from rfl)
                  clear hel
                  generalize expd (dTo (singF s)) k5 = ex at *
                  go_wp2_with (go_at_call 76; (with_reducible refine (HSG _).mono ?_); rintro e w5 ⟨rfl, hb5⟩; replace hL5 := bstep hL5 hb5; clear hb5)
                  go_loopw [19, 80] (fun bv pv wr => ∃ p : Nat, p ≤ 4 ∧ bv = .bool (insd (dTo (singF s)) k5 p) ∧ pv = .int .i64 (p : Int) ∧ Below W3.heap.size W3 wr) (fun _ pv _ => 4 - (RowKit.intOf pv).toNat)
                  case atStart => exact ⟨0, Nat.zero_le _, rfl, rfl, hL5⟩
                  case round =>
                    clear hL5
                    obtain ⟨p, hp, rfl, rfl, hL5⟩ := hrel
                    by_cases hp4 : p < 4
                    · have p0 : (0 : Int) ≤ (p : Int) := by omega
                      have p1 : (p : Int) < 4 := by omega
                      have hst := Lib.hid (insd_succ (dTo (singF s)) k5 p)
                      cases hf : insd (dTo (singF s)) k5 p
                      · have hf2 := Lib.hid (show insd (dTo (singF s)) k5 (p + 1) = false by rw [hst.out, hf]; rfl)
                        have HIX := fun W => run_ix98 k5 p hp4 W
                        clear hf
                        go_wp2
                        go_roundw
                        case rel => exact ⟨p + 1, by omega, by rw [hf2.out], by go_num, hL5⟩
                        case measure => simp [RowKit.intOf]; omega
                      · have hf2 := Lib.hid (show insd (dTo (singF s)) k5 (p + 1) = (dTo (singF s) p).testBit (sg1 k5 p) by rw [hst.out, hf]; rfl)
                        have HIX := fun W => run_ix98 k5 p hp4 W
                        obtain ⟨hsg, hsg2⟩ := sg1_bd k5 hk13 p hp4
                        have hwt : IntKind.i64.wrap (sgT k5 p + 1) = ((sg1 k5 p : Nat) : Int) := by rw [hsg]; exact IntWalk.i64_in _ (by omega)
                        have d1 := (HD3.out.at (hL5.block D HD3.out.lt)).cell hp4
                        have hbt := Bt.bit_test (dTo (singF s) p) (sg1 k5 p) (by have := HDL.out p hp4; omega)
                        have m0 : (0 : Int) ≤ ((sg1 k5 p : Nat) : Int) := by omega
                        have m1 : ((sg1 k5 p : Nat) : Int) < 13 := by omega
                        clear hf hsg hsg2
                        generalize sgT k5 p = sv at *
                        generalize sg1 k5 p = mm at *
                        generalize dTo (singF s) p = dv at *
                        generalize dv.testBit mm = bb at *
                        go_wp2
                        go_roundw
                        case rel => exact ⟨p + 1, by omega, by rw [hf2.out], by go_num, hL5⟩
                        case measure => simp [RowKit.intOf]; omega
                    · obtain rfl : 4 = p := by omega
                      cases hf : insd (dTo (singF s)) k5 4
                      · have HE2 := Lib.hid (show expd (dTo (singF s)) (k5 + 1) = ex by rw [HES.out, hf]; rfl)
                        clear hf
                        go_wp2
                        go_roundw
                        case rel => exact ⟨k5 + 1, by omega, by rw [HE2.out], by go_num, hL5⟩
                        case measure => simp [RowKit.intOf]; omega
                      · have HE2 := Lib.hid (show expd (dTo (singF s)) (k5 + 1) = ex ||| 2 ^ k5 by rw [HES.out, hf]; rfl)
                        clear hf
                        go_wp2
                        go_roundw
                        case rel => exact ⟨k5 + 1, by omega, by rw [HE2.out], by go_num, hL5⟩
                        case measure => simp [RowKit.intOf]; omega
                · have hk5e : k5 = 13 := by omega
                  have hex13 : expd (dTo (singF s)) k5 = expd (dTo (singF s)) 13 := by rw [hk5e]
                  rw [hex13]
                  clear hk5e hex13
                  have cS := Go.Proofs.Ytoadihclmnjjnaa.Sl.cell_kept HCS.out.1 hL5
                  by_cases hes : expd (dTo (singF s)) 13 = s
                  · have ges : (((expd (dTo (singF s)) 13 : Nat) : Int) == (s : Int)) = true := by rw [hes]; simp
                    have ges2 : (expd (dTo (singF s)) 13 == s) = true := by rw [hes]; simp
                    have HEX := Lib.hid (show expr ⟨(i : Int), (j : Int), (s : Int)⟩ = true by unfold expr; rw [Int.toNat_natCast]; exact ges2)
                    rw [hes] at ges ges2 ⊢
                    clear hes
                    have hb4 : Below D W1 wr := HB3.out.trans (hL5.mono (Nat.le_of_lt lD3))
                    obtain ⟨hB4, hC4, hRC4⟩ := HBS.out wr hb4
                    have HB4 := Lib.hid (show Bf w wr _ (allB n (l.take k) ++ rlB ⟨(i : Int), (j : Int), (s : Int)⟩ 0) by simpa [rlB] using hB4)
                    have HC4 := Lib.hid (show Cf w wr _ (allC (l.take k) ++ rlC ⟨(i : Int), (j : Int), (s : Int)⟩ 0) by simpa [rlC] using hC4)
                    have HH4 := Lib.hid (show wr.heap[RC]? = some (.cells #[.int .i64 (i : Int), .int .i64 (j : Int), .int .i64 (s : Int)] 30 (0, 0)) ∧ DH wr D (dTo (singF s)) from ⟨hRC4, HD3.out.at (hL5.block D HD3.out.lt)⟩)
                    have HTL := Lib.hid (show l.take (k + 1) = l.take k ++ [⟨(i : Int), (j : Int), (s : Int)⟩] by rw [List.take_add_one, HT.out]; rfl)
                    have HTN := Lib.hid (show (l.take k).length ≤ 200 by rw [List.length_take]; omega)
                    clear hb4 hB4 hC4 hRC4 hL5 HBS HB3 HCS HBF HCF
                    go_upto_region 40 with fail
                    clear cS ges ges2
                    go_wp2
                    go_loopw [7, 9, 106] (fun v7 v9 pv wr => ∃ p : Nat, p ≤ 4 ∧ pv = .int .i64 (p : Int) ∧ Hid (Bf w wr v7 (allB n (l.take k) ++ rlB ⟨(i : Int), (j : Int), (s : Int)⟩ p)) ∧ Hid (Cf w wr v9 (allC (l.take k) ++ rlC ⟨(i : Int), (j : Int), (s : Int)⟩ p)) ∧ Hid (wr.heap[RC]? = some (.cells #[.int .i64 (i : Int), .int .i64 (j : Int), .int .i64 (s : Int)] 30 (0, 0)) ∧ DH wr D (dTo (singF s)))) (fun _ _ pv _ => 4 - (RowKit.intOf pv).toNat)
                    case atStart => exact ⟨0, Nat.zero_le _, rfl, HB4, HC4, HH4⟩
                    case round =>
                      clear HB4 HC4 HH4
                      obtain ⟨p, hp, rfl, hB, hC, hH⟩ := hrel
                      by_cases hp4 : p < 4
                      · have p0 : (0 : Int) ≤ (p : Int) := by omega
                        have p1 : (p : Int) < 4 := by omega
                        have cI : wr.cell? ⟨RC, 0, none⟩ = some (.int .i64 (i : Int)) := by rw [cell_of_row _ _ 0 _ _ _ hH.out.1]; rfl
                        have cJ : wr.cell? ⟨RC, 1, none⟩ = some (.int .i64 (j : Int)) := by rw [cell_of_row _ _ 1 _ _ _ hH.out.1]; rfl
                        have d1 := hH.out.2.cell hp4
                        have hd8 := dTo_lt (singF s) hp4
                        have HLB := Lib.hid (allB_len n (l.take k) p ⟨(i : Int), (j : Int), (s : Int)⟩)
                        have HLC := Lib.hid (allC_len (l.take k) p ⟨(i : Int), (j : Int), (s : Int)⟩)
                        have HSB := Lib.hid (rlB_succ ⟨(i : Int), (j : Int), (s : Int)⟩ p)
                        have HSC := Lib.hid (rlC_succ ⟨(i : Int), (j : Int), (s : Int)⟩ p)
                        have hbs := HSB.out
                        have hcs := HSC.out
                        rw [emB_eq, Int.toNat_natCast] at hbs
                        rw [emC_eq, Int.toNat_natCast] at hcs
                        have hpa : ((p / 2 : Nat) : Int) = (p : Int) / 2 := by omega
                        have hpb : ((p % 2 : Nat) : Int) = (p : Int) % 2 := by omega
                        dsimp only at hbs hcs
                        rw [hpa, hpb] at hbs hcs
                        have w1 : IntKind.i64.wrap ((p : Int).tdiv 2) = (p : Int) / 2 := by rw [Int.tdiv_eq_ediv_of_nonneg (by omega), IntKind.wrap_i64]; omega
                        have w2 : IntKind.i64.wrap (2 * (i : Int)) = 2 * (i : Int) := IntWalk.i64_in _ (by omega)
                        have w3 : IntKind.i64.wrap (2 * (j : Int)) = 2 * (j : Int) := IntWalk.i64_in _ (by omega)
                        have w4 : IntKind.i64.wrap (2 * (i : Int) + (p : Int) / 2) = 2 * (i : Int) + (p : Int) / 2 := IntWalk.i64_in _ (by omega)
                        have w5 : IntKind.i64.wrap (2 * (j : Int) + (p : Int) % 2) = 2 * (j : Int) + (p : Int) % 2 := IntWalk.i64_in _ (by omega)
                        clear hpa hpb HSB HSC
                        generalize dTo (singF s) p = dv at *
                        go_upto_region 43 with fail
                        have z0 := cell_regrown cI
                        have z1 := cell_regrown cJ
                        refine wp_region_quiet_below (by kernel_rfl) (by kernel_rfl) ?_
                        repeat (go_big_quiet_step (fail))
                        refine wpQuiet_nil ?_
                        rintro w9 ⟨⟨dq, osq⟩, hw9⟩
                        have hb9 : Below wr.heap.size wr w9 := by rw [hw9]; exact below_regrown _ dq osq
                        have d1 := Go.Proofs.Ytoadihclmnjjnaa.Sl.cell_kept d1 hb9
                        have hB9 := hB.out.step hb9
                        have hC9 := hC.out.step hb9
                        have hR9 := (hb9.block RC (Array.getElem?_eq_some_iff.1 hH.out.1).1).trans hH.out.1
                        have hD9 := hH.out.2.at (hb9.block D hH.out.2.lt)
                        have hl1 : (allB n (l.take k) ++ rlB ⟨(i : Int), (j : Int), (s : Int)⟩ p).length ≤ 1000000 := by have := HLB.out; have := HTN.out; omega
                        have hl2 : (allC (l.take k) ++ rlC ⟨(i : Int), (j : Int), (s : Int)⟩ p).length ≤ 1000000 := by have := HLC.out; have := HTN.out; omega
                        clear z0 z1 hw9 hb9 cI cJ hB hC hH w1 w2 w3 w4 w5
                        generalize 2 * (i : Int) + (p : Int) / 2 = ea at *
                        generalize 2 * (j : Int) + (p : Int) % 2 = eb at *
                        have HSB := Lib.hid hbs
                        have HSC := Lib.hid hcs
                        clear hbs hcs
                        rcases (show dv = 4 ∨ dv = 6 ∨ dv = 1 ∨ dv = 3 ∨ dv = 2 ∨ dv = 5 ∨ dv = 0 ∨ dv = 7 by omega) with rfl | rfl | rfl | rfl | rfl | rfl | rfl | rfl
                        · go_wp2_with (at_builtin; refine wp_bnd hB9 rfl (.tmp 126) (.tmp 130) rfl rfl 68 rfl (by simp) ⟨eb, ea, -1⟩ hl1 ?_; intro v1 w1 hB1 hg1)
                          have NB := Lib.hid (show Bf w w1 v1 (allB n (l.take k) ++ rlB ⟨(i : Int), (j : Int), (s : Int)⟩ (p + 1)) by rw [HSB.out, ← List.append_assoc]; exact hB1)
                          have NC := Lib.hid (show Cf w w1 _ (allC (l.take k) ++ rlC ⟨(i : Int), (j : Int), (s : Int)⟩ (p + 1)) by rw [HSC.out]; simpa [emY] using hC9.far hB9.1 (by decide) (by decide) hg1 hB1.2)
                          have NH := Lib.hid (show w1.heap[RC]? = some (.cells #[.int .i64 (i : Int), .int .i64 (j : Int), .int .i64 (s : Int)] 30 (0, 0)) ∧ DH w1 D (dTo (singF s)) from ⟨heap_far hB9.1 hg1 hR9 (by decide), heap_far hB9.1 hg1 hD9 (by decide)⟩)
                          clear hB1 hg1 hB9 hC9 hR9 hD9
                          go_roundw
                          case rel => exact ⟨p + 1, by omega, by go_num, NB, NC, NH⟩
                          case measure => simp [RowKit.intOf]; omega
                        · go_wp2_with (at_builtin; refine wp_bnd hB9 rfl (.tmp 134) (.tmp 138) rfl rfl 68 rfl (by simp) ⟨eb, ea, 0⟩ hl1 ?_; intro v1 w1 hB1 hg1)
                          have NB := Lib.hid (show Bf w w1 v1 (allB n (l.take k) ++ rlB ⟨(i : Int), (j : Int), (s : Int)⟩ (p + 1)) by rw [HSB.out, ← List.append_assoc]; exact hB1)
                          have NC := Lib.hid (show Cf w w1 _ (allC (l.take k) ++ rlC ⟨(i : Int), (j : Int), (s : Int)⟩ (p + 1)) by rw [HSC.out]; simpa [emY] using hC9.far hB9.1 (by decide) (by decide) hg1 hB1.2)
                          have NH := Lib.hid (show w1.heap[RC]? = some (.cells #[.int .i64 (i : Int), .int .i64 (j : Int), .int .i64 (s : Int)] 30 (0, 0)) ∧ DH w1 D (dTo (singF s)) from ⟨heap_far hB9.1 hg1 hR9 (by decide), heap_far hB9.1 hg1 hD9 (by decide)⟩)
                          clear hB1 hg1 hB9 hC9 hR9 hD9
                          go_roundw
                          case rel => exact ⟨p + 1, by omega, by go_num, NB, NC, NH⟩
                          case measure => simp [RowKit.intOf]; omega
                        · go_wp2_with (at_builtin; refine wp_bnd hB9 rfl (.tmp 142) (.tmp 146) rfl rfl 68 rfl (by simp) ⟨ea, eb, -1⟩ hl1 ?_; intro v1 w1 hB1 hg1)
                          have NB := Lib.hid (show Bf w w1 v1 (allB n (l.take k) ++ rlB ⟨(i : Int), (j : Int), (s : Int)⟩ (p + 1)) by rw [HSB.out, ← List.append_assoc]; exact hB1)
                          have NC := Lib.hid (show Cf w w1 _ (allC (l.take k) ++ rlC ⟨(i : Int), (j : Int), (s : Int)⟩ (p + 1)) by rw [HSC.out]; simpa [emY] using hC9.far hB9.1 (by decide) (by decide) hg1 hB1.2)
                          have NH := Lib.hid (show w1.heap[RC]? = some (.cells #[.int .i64 (i : Int), .int .i64 (j : Int), .int .i64 (s : Int)] 30 (0, 0)) ∧ DH w1 D (dTo (singF s)) from ⟨heap_far hB9.1 hg1 hR9 (by decide), heap_far hB9.1 hg1 hD9 (by decide)⟩)
                          clear hB1 hg1 hB9 hC9 hR9 hD9
                          go_roundw
                          case rel => exact ⟨p + 1, by omega, by go_num, NB, NC, NH⟩
                          case measure => simp [RowKit.intOf]; omega
                        · go_wp2_with (at_builtin; refine wp_bnd hB9 rfl (.tmp 150) (.tmp 154) rfl rfl 68 rfl (by simp) ⟨ea, eb, 0⟩ hl1 ?_; intro v1 w1 hB1 hg1)
                          have NB := Lib.hid (show Bf w w1 v1 (allB n (l.take k) ++ rlB ⟨(i : Int), (j : Int), (s : Int)⟩ (p + 1)) by rw [HSB.out, ← List.append_assoc]; exact hB1)
                          have NC := Lib.hid (show Cf w w1 _ (allC (l.take k) ++ rlC ⟨(i : Int), (j : Int), (s : Int)⟩ (p + 1)) by rw [HSC.out]; simpa [emY] using hC9.far hB9.1 (by decide) (by decide) hg1 hB1.2)
                          have NH := Lib.hid (show w1.heap[RC]? = some (.cells #[.int .i64 (i : Int), .int .i64 (j : Int), .int .i64 (s : Int)] 30 (0, 0)) ∧ DH w1 D (dTo (singF s)) from ⟨heap_far hB9.1 hg1 hR9 (by decide), heap_far hB9.1 hg1 hD9 (by decide)⟩)
                          clear hB1 hg1 hB9 hC9 hR9 hD9
                          go_roundw
                          case rel => exact ⟨p + 1, by omega, by go_num, NB, NC, NH⟩
                          case measure => simp [RowKit.intOf]; omega
                        · go_wp2_with (at_builtin; refine wp_bnd2 hB9 rfl (.tmp 158) (.tmp 165) rfl rfl 68 rfl (by simp) ⟨eb, ea, 0⟩ ⟨ea, eb, 0⟩ hl1 ?_; intro v1 w1 hB1 hg1)
                          have NB := Lib.hid (show Bf w w1 v1 (allB n (l.take k) ++ rlB ⟨(i : Int), (j : Int), (s : Int)⟩ (p + 1)) by rw [HSB.out, ← List.append_assoc]; exact hB1)
                          have NC := Lib.hid (show Cf w w1 _ (allC (l.take k) ++ rlC ⟨(i : Int), (j : Int), (s : Int)⟩ (p + 1)) by rw [HSC.out]; simpa [emY] using hC9.far hB9.1 (by decide) (by decide) hg1 hB1.2)
                          have NH := Lib.hid (show w1.heap[RC]? = some (.cells #[.int .i64 (i : Int), .int .i64 (j : Int), .int .i64 (s : Int)] 30 (0, 0)) ∧ DH w1 D (dTo (singF s)) from ⟨heap_far hB9.1 hg1 hR9 (by decide), heap_far hB9.1 hg1 hD9 (by decide)⟩)
                          clear hB1 hg1 hB9 hC9 hR9 hD9
                          go_roundw
                          case rel => exact ⟨p + 1, by omega, by go_num, NB, NC, NH⟩
                          case measure => simp [RowKit.intOf]; omega
                        · have hC9' := hC9
                          obtain ⟨cs, _, hown, _, _⟩ := hC9'
                          go_wp2_with (at_builtin; refine wp_chc hC9 rfl (.tmp 169) (.tmp 176) rfl rfl 71 rfl (by simp) ea eb hl2 ?_; intro v1 w1 hC1 hg1)
                          have hbw1 : Below w.heap.size w w1 := by
                            obtain ⟨_, _, _, h, _⟩ := hC1
                            exact h
                          have NC := Lib.hid (show Cf w w1 v1 (allC (l.take k) ++ rlC ⟨(i : Int), (j : Int), (s : Int)⟩ (p + 1)) by rw [HSC.out, ← List.append_assoc]; exact hC1)
                          have NB := Lib.hid (show Bf w w1 _ (allB n (l.take k) ++ rlB ⟨(i : Int), (j : Int), (s : Int)⟩ (p + 1)) by rw [HSB.out]; simpa [emX] using hB9.far hown (by decide) hg1 hbw1)
                          have NH := Lib.hid (show w1.heap[RC]? = some (.cells #[.int .i64 (i : Int), .int .i64 (j : Int), .int .i64 (s : Int)] 30 (0, 0)) ∧ DH w1 D (dTo (singF s)) from ⟨heap_far hown hg1 hR9 (by decide), heap_far hown hg1 hD9 (by decide)⟩)
                          clear hC1 hg1 hB9 hC9 hR9 hD9 hown hbw1
                          go_roundw
                          case rel => exact ⟨p + 1, by omega, by go_num, NB, NC, NH⟩
                          case measure => simp [RowKit.intOf]; omega
                        · have NB := Lib.hid (show Bf w w9 _ (allB n (l.take k) ++ rlB ⟨(i : Int), (j : Int), (s : Int)⟩ (p + 1)) by rw [HSB.out]; simpa [emX] using hB9)
                          have NC := Lib.hid (show Cf w w9 _ (allC (l.take k) ++ rlC ⟨(i : Int), (j : Int), (s : Int)⟩ (p + 1)) by rw [HSC.out]; simpa [emY] using hC9)
                          have NH := Lib.hid (show w9.heap[RC]? = some (.cells #[.int .i64 (i : Int), .int .i64 (j : Int), .int .i64 (s : Int)] 30 (0, 0)) ∧ DH w9 D (dTo (singF s)) from ⟨hR9, hD9⟩)
                          clear hB9 hC9 hR9 hD9
                          go_wp2
                          go_roundw
                          case rel => exact ⟨p + 1, by omega, by go_num, NB, NC, NH⟩
                          case measure => simp [RowKit.intOf]; omega
                        · have NB := Lib.hid (show Bf w w9 _ (allB n (l.take k) ++ rlB ⟨(i : Int), (j : Int), (s : Int)⟩ (p + 1)) by rw [HSB.out]; simpa [emX] using hB9)
                          have NC := Lib.hid (show Cf w w9 _ (allC (l.take k) ++ rlC ⟨(i : Int), (j : Int), (s : Int)⟩ (p + 1)) by rw [HSC.out]; simpa [emY] using hC9)
                          have NH := Lib.hid (show w9.heap[RC]? = some (.cells #[.int .i64 (i : Int), .int .i64 (j : Int), .int .i64 (s : Int)] 30 (0, 0)) ∧ DH w9 D (dTo (singF s)) from ⟨hR9, hD9⟩)
                          clear hB9 hC9 hR9 hD9
                          go_wp2
                          go_roundw
                          case rel => exact ⟨p + 1, by omega, by go_num, NB, NC, NH⟩
                          case measure => simp [RowKit.intOf]; omega
                      · obtain rfl : 4 = p := by omega
                        have HBN := Lib.hid (show Bf w wr _ (allB n (l.take (k + 1))) by rw [HTL.out, allB_snoc]; exact hB.out)
                        have HCN := Lib.hid (show Cf w wr _ (allC (l.take (k + 1))) by rw [HTL.out, allC_snoc]; exact hC.out)
                        have HEN := Lib.hid (show ((l.take (k + 1)).any fun r => !expr r) = false by rw [HTL.out, List.any_append, hE.out]; simp [HEX.out])
                        clear hB hC hH
                        go_wp2
                        go_roundw
                        case rel => exact ⟨k + 1, by omega, by go_num, HBN, HCN, HEN⟩
                        case measure => simp [RowKit.intOf]; omega
                  · have ges : (((expd (dTo (singF s)) 13 : Nat) : Int) == (s : Int)) = false := by simp; omega
                    have ges2 : (expd (dTo (singF s)) 13 == s) = false := by simpa using hes
                    have HEX := Lib.hid (show (l.any fun r => !expr r) = true from List.any_eq_true.2 ⟨_, List.mem_of_getElem? HT.out, by unfold expr; rw [Int.toNat_natCast, ges2]; rfl⟩)
                    have hLf := HBF.out.2.trans (hL5.mono HBF.out.2.size)
                    generalize expd (dTo (singF s)) 13 = ex at *
                    clear ges2
                    go_wp2
                    refine bodyPost_ret (by simp [results, Try.results38, go_sem]; try rfl) rfl ?_
                    exact ⟨hLf, Or.inr (Or.inl ⟨HZ.out, HEX.out, rfl⟩)⟩
        · obtain rfl : q = k := by omega
          have h9 : l.take q = l := by rw [HQ.out]; exact List.take_length
          have HFB := Lib.hid (show Bf w wr _ (allB n l) by have := hB.out; rwa [h9] at this)
          have HFC := Lib.hid (show Cf w wr _ (allC l) by have := hC.out; rwa [h9] at this)
          have HFE := Lib.hid (show (l.any fun r => !expr r) = false by have := hE.out; rwa [h9] at this)
          clear hB hC hE h9
          go_wp2
          refine bodyPost_ret (by simp [results, Try.results38, go_sem]; try rfl) rfl ?_
          exact ⟨HFB.out.2, Or.inr (Or.inr ⟨HZ.out, HFE.out, _, _, rfl, HFB.out, HFC.out⟩)⟩
end Go.Proofs.Ytoadihclmnjjnaa.Nw
