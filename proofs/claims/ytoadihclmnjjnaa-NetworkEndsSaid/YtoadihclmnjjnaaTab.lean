/-
  The walk of allen's table: what its 169 cells hold.
-/
import Derived.Test.YtoadihclmnjjnaaSpn
import Derived.Test.YtoadihclmnjjnaaAlS
import Derived.Test.YtoadihclmnjjnaaLast
import Derived.Deep.WholeRow
import Derived.Deep.RegionHeld3
import Derived.Deep.DeepCutAuto
set_option linter.unusedSimpArgs false
set_option linter.unusedVariables false
namespace Go.Proofs.Ytoadihclmnjjnaa.Al
open Go Go.RowKit Go.Proofs.Ytoadihclmnjjnaa.Bt Go.Proofs.Ytoadihclmnjjnaa.Sl Go.Proofs.Ytoadihclmnjjnaa.Iv

def spA (k : Nat) : Int := (spL.getD k (0, 0)).1
def spB (k : Nat) : Int := (spL.getD k (0, 0)).2
/-- The relation of two intervals of the list. -/
def rl (i j : Nat) : Nat := (ofZ (spA i) (spB i) (spA j) (spB j)).toNat
theorem rl_all : ∀ i < 15, ∀ j < 15, ofZ (spA i) (spB i) (spA j) (spB j) = ((rl i j : Nat) : Int) ∧ rl i j < 13 := of_decide_eq_true (by kernel_rfl)
theorem of_sp (i j : Nat) (hi : i < 15) (hj : j < 15) (w : World) : Calls Try.prog 31 #[.agg #[.int .i64 (spA i), .int .i64 (spB i)], .agg #[.int .i64 (spA j), .int .i64 (spB j)]] w fun e w' => e = .returned (.int .i64 ((rl i j : Nat) : Int)) ∧ Below w.heap.size w w' := by
  rw [← (rl_all i hi j hj).1]; exact of_any _ _ _ _ w

/-- The 13 bits at place p of a great number. -/
def rowP (S p : Nat) : Nat := S / 2 ^ (13 * p) % 2 ^ 13
theorem rowP_bit (S p c : Nat) : (rowP S p).testBit c = (decide (c < 13) && S.testBit (13 * p + c)) := by
  unfold rowP
  rw [Nat.testBit_mod_two_pow, Nat.testBit_div_two_pow]
  congr 2; omega
theorem rowP_lt (S p : Nat) : rowP S p < 8192 := Nat.mod_lt _ (by decide)
theorem rowP_same (S p c : Nat) (hc : c < 13) : rowP (S ||| 2 ^ (13 * p + c)) p = rowP S p ||| 2 ^ c := by
  apply Nat.eq_of_testBit_eq
  intro i
  rw [rowP_bit, Nat.testBit_or, Nat.testBit_or, rowP_bit, Nat.testBit_two_pow, Nat.testBit_two_pow]
  by_cases h : c = i
  · subst h; simp [hc]
  · have : ¬ 13 * p + c = 13 * p + i := by omega
    simp [h, this]
theorem rowP_other (S p q c : Nat) (hc : c < 13) (h : q ≠ p) : rowP (S ||| 2 ^ (13 * p + c)) q = rowP S q := by
  apply Nat.eq_of_testBit_eq
  intro i
  rw [rowP_bit, rowP_bit, Nat.testBit_or, Nat.testBit_two_pow]
  by_cases hi : i < 13
  · have : ¬ 13 * p + c = 13 * q + i := by omega
    simp [this]
  · simp [hi]

/-- The table's cells. -/
def tabC (S : Nat) : Array Value := ((List.range 169).map fun p => Value.int .i64 ((rowP S p : Nat) : Int)).toArray
theorem tabC_size (S : Nat) : (tabC S).size = 169 := by simp [tabC]
theorem tabC_get (S p : Nat) (h : p < 169) : (tabC S)[p]? = some (.int .i64 ((rowP S p : Nat) : Int)) := by simp [tabC, h]
theorem tabC_set (S p c : Nat) (hp : p < 169) (hc : c < 13) : (tabC S).setIfInBounds p (.int .i64 ((rowP S p ||| 2 ^ c : Nat) : Int)) = tabC (S ||| 2 ^ (13 * p + c)) := by
  apply Array.ext_getElem?
  intro q
  rw [Array.getElem?_setIfInBounds, tabC_size]
  by_cases h : p = q
  · subst h; rw [if_pos rfl, if_pos hp, tabC_get _ _ hp, rowP_same _ _ _ hc]
  · rw [if_neg h]
    by_cases hq : q < 169
    · rw [tabC_get _ _ hq, tabC_get _ _ hq, rowP_other _ _ _ _ hc (by omega)]
    · rw [Array.getElem?_eq_none (by rw [tabC_size]; omega), Array.getElem?_eq_none (by rw [tabC_size]; omega)]
theorem tabC_one (S : Nat) : (tabC S).all (·.oneCell') = true := by
  rw [Array.all_eq_true_iff_forall_mem]
  intro x hx
  simp [tabC] at hx
  obtain ⟨p, _, rfl⟩ := hx
  rfl

/-- The bit that the round n lays. -/
def bitAt (n : Nat) : Nat := 13 * (rl (n / 225) (n / 15 % 15) * 13 + rl (n / 15 % 15) (n % 15)) + rl (n / 225) (n % 15)
/-- The table after n rounds. -/
def TS : Nat → Nat
  | 0 => 0
  | n + 1 => TS n ||| 2 ^ bitAt n

/-- What stands while the loops run. -/
def TI (w : World) (g S : Nat) (W : World) : Prop :=
  W.heap[w.heap.size]? = some (.cells (tabC 0) 123 (0, 0)) ∧ W.heap[w.heap.size + 1]? = some (.cells (tabC S) 123 (0, 0)) ∧ w.heap.size + 2 ≤ g ∧ g < W.heap.size ∧
  (∀ j u, (flat spL)[j]? = some u → W.cell? ⟨g, j, none⟩ = some u) ∧ Below w.heap.size w W ∧ w.heap.size + 2 ≤ W.heap.size
theorem TI.step {w W W' : World} {g S : Nat} (h : TI w g S W) (hb : Below W.heap.size W W') : TI w g S W' := by
  obtain ⟨h1, h2, h3, h4, h5, h6, h7⟩ := h
  refine ⟨?_, ?_, h3, Nat.lt_of_lt_of_le h4 hb.size, fun j u hu => Sl.cell_kept (h5 j u hu) hb, Sl.bstep h6 hb, Nat.le_trans h7 hb.size⟩
  · rw [hb.block _ (by omega)]; exact h1
  · rw [hb.block _ (by omega)]; exact h2
theorem TI.alloc {w W : World} {g S : Nat} (h : TI w g S W) (o : Obj) : TI w g S (W.alloc o) := h.step ((Below.refl _ _).alloc (Nat.le_refl _) o)
theorem TI.drew {w W : World} {g S : Nat} (h : TI w g S W) : TI w g S W.drew := h.step ⟨rfl, rfl, rfl, Nat.le_refl _, fun _ _ => rfl⟩
theorem TI.store {w W : World} {g S p c : Nat} (h : TI w g S W) (hp : p < 169) (hc : c < 13) : TI w g (S ||| 2 ^ (13 * p + c)) (W.setCell ⟨w.heap.size + 1, p, none⟩ (.int .i64 ((rowP S p ||| 2 ^ c : Nat) : Int))) := by
  obtain ⟨h1, h2, h3, h4, h5, h6, h7⟩ := h
  refine ⟨?_, ?_, h3, by simpa using h4, fun j u hu => ?_, h6.setCell (by simp) _, by simpa using h7⟩
  · rw [heap_setCell_other _ _ _ _ (by simp)]; exact h1
  · rw [heap_setCell_same _ _ _ _ _ _ h2, tabC_set _ _ _ hp hc]
  · rw [World.cell?_setCell_other (h := by intro e; injection e; omega)]; exact h5 j u hu
theorem TI.cell {w W : World} {g S : Nat} (h : TI w g S W) (p : Nat) (hp : p < 169) : W.cell? ⟨w.heap.size + 1, p, none⟩ = some (.int .i64 ((rowP S p : Nat) : Int)) := by
  rw [cell_of_row _ _ _ _ _ _ h.2.1]; exact tabC_get _ _ hp
theorem TI.frozen {w W : World} {g S : Nat} (h : TI w g S W) (p : Nat) : W.frozen? ⟨w.heap.size + 1, p, none⟩ = false := by
  simp [World.frozen?, h.2.1]

/-- A load, a store of a whole row at its block's head, as the walk meets them. -/
theorem wp_load_row {P : Program} {op : Oper} {a : Act} {w : World} {K : Act → World → Prop} {Q : Exit → Act → World → Prop} (ty : TypeId) (x : Operand) (ho : op.op = .load ty x) (b : Nat) (hx : a.eval x = .pointer (some ⟨b, 0, none⟩)) (cs : Array Value) (t : TypeId) (fr : Nat × Nat) (d : TypeDesc)
    (hg : w.heap[b]? = some (.cells cs t fr)) (hu : P.underlying ty = some d) (hd : (match d with | .struct _ | .array _ _ => true | _ => false) = true) (hi : (P.info? ty).map (·.size) = some cs.size) (h : K (a.put op.dst (.agg cs)) w) : op.wp P a w K Q := by
  unfold Oper.wp execOp
  simp only [ho, hx, Instr.loadAt, Instr.sureAddr, Sem.run_bind, Sem.run_pure, Result.andThen_ok, run_loadVar_row w b t ty cs fr d hg hu hd hi]
  exact h
theorem wp_store_row {P : Program} {op : Oper} {a : Act} {w : World} {K : Act → World → Prop} {Q : Exit → Act → World → Prop} (ty : TypeId) (x y : Operand) (ho : op.op = .store ty x y) (b : Nat) (cells : Array Value) (hx : a.eval x = .pointer (some ⟨b, 0, none⟩)) (hy : a.eval y = .agg cells) (old : Array Value) (t : TypeId)
    (hg : w.heap[b]? = some (.cells old t (0, 0))) (hi : (P.info? ty).map (·.size) = some cells.size) (hs : old.size = cells.size) (h1 : cells.all (·.oneCell') = true)
    (h : ∀ w', w'.heap[b]? = some (.cells cells t (0, 0)) → Below b w w' → K (a.put op.dst undef) w') : op.wp P a w K Q := by
  unfold Oper.wp execOp
  simp only [ho, hx, hy, Instr.storeAt, Instr.sureAddr, Sem.run_bind, Sem.run_pure, Result.andThen_ok, run_storeVar_row w b t ty old cells hg hi hs h1]
  refine h _ ?_ ⟨rfl, rfl, rfl, by simp [World.setRow], fun k hk => ?_⟩
  · simp [World.setRow, Array.getElem?_modify, hg]
  · simp only [World.setRow, Array.getElem?_modify]
    rw [if_neg (by omega)]

theorem info_tab : (Try.prog.info? 123).map (fun i => (i.zero, i.size)) = some (some (.agg (tabC 0)), 169) := by kernel_rfl

/-- What stands in a round: the table, and the cells of the round's own spans. -/
def TK (w : World) (g S : Nat) (cs : List (Nat × Nat × Value)) (W : World) : Prop := TI w g S W ∧ ∀ c ∈ cs, W.cell? ⟨c.1, c.2.1, none⟩ = some c.2.2
theorem TK.step {w W W' : World} {g S : Nat} {cs : List (Nat × Nat × Value)} (h : TK w g S cs W) (hb : Below W.heap.size W W') : TK w g S cs W' := ⟨h.1.step hb, fun c hc => Sl.cell_kept (h.2 c hc) hb⟩
theorem TK.alloc {w W : World} {g S : Nat} {cs : List (Nat × Nat × Value)} (h : TK w g S cs W) (o : Obj) : TK w g S cs (W.alloc o) := h.step ((Below.refl _ _).alloc (Nat.le_refl _) o)
theorem TK.drew {w W : World} {g S : Nat} {cs : List (Nat × Nat × Value)} (h : TK w g S cs W) : TK w g S cs W.drew := h.step ⟨rfl, rfl, rfl, Nat.le_refl _, fun _ _ => rfl⟩
theorem TK.cell {w W : World} {g S : Nat} {cs : List (Nat × Nat × Value)} (h : TK w g S cs W) (b o : Nat) (v : Value) (hm : (b, o, v) ∈ cs) : W.cell? ⟨b, o, none⟩ = some v := h.2 _ hm
/-- A store into the table leaves the cells of other blocks. -/
theorem cell_tab {w W : World} {p b o : Nat} {v u : Value} (h : W.cell? ⟨b, o, none⟩ = some v) (hb : b ≠ w.heap.size + 1) : (W.setCell ⟨w.heap.size + 1, p, none⟩ u).cell? ⟨b, o, none⟩ = some v := by
  rw [World.cell?_setCell_other (h := by intro e; injection e; omega)]; exact h

/-- The result lies in one cell's block. -/
theorem results_cell1 {P : Program} {fn : Func} {tmps : Array Value} {w : World} {a : Tmp} {t : TypeId} {ad : Addr} {v : Value} (hr : fn.results = #[.cell a t]) (ht : tmps.getD a undef = .pointer (some ad)) (hld : (loadVar t ad).run P w = .ok v w) : (results fn tmps).run P w = .ok v w := by
  unfold results
  rw [hr]
  have ht' : tmps[a]?.getD undef = .pointer (some ad) := by simpa using ht
  rw [List.mapM_toArray]
  simp only [List.mapM_cons, List.mapM_nil, Sem.run_bind, Sem.run_map, ht, asAddr, Sem.run_pure, Result.andThen_ok, hld]
  simp

set_option maxRecDepth 100000 in
set_option maxHeartbeats 8000000 in
theorem table_any (w : World) : Calls Try.prog 104 #[] w fun e w' => e = .returned (.agg (tabC (TS 3375))) ∧ Below w.heap.size w w' := by
  obtain ⟨z47, s47⟩ := zero_of_info info_tab
  go_enter Try.func104, Try.ntmps104
  go_wp2_with (go_at_call 107; refine (spans_any _).mono ?_; rintro e w1 ⟨v, rfl, hown, hb⟩)
  have hsz := hb.size
  have hSl := Sl.of_owns hown
  rw [spL_len] at hown
  obtain ⟨g, cap, rfl⟩ : ∃ g cap, v = .slice (some ⟨g, 0, none⟩) 15 cap := ownsRow_succ hown
  have hT : TI w g (TS 0) w1 := by
    rcases hown.2 with ⟨h0, _⟩ | ⟨g', cap', cur, hv, hg, hh, hr⟩
    · cases h0
    obtain ⟨rfl, _⟩ : g = g' ∧ cap = cap' := by simpa using hv
    have hl : w.heap.size + 2 ≤ w1.heap.size := by simpa using hsz
    have hg2 : w.heap.size + 2 ≤ g := by simpa using hg
    refine ⟨?_, ?_, hg2, ?_, fun j u hu => ?_, ?_, hl⟩
    · rw [hb.block _ (by simp; omega), ((Below.refl _ (w.alloc (.cells (tabC 0) 123))).alloc (Nat.le_refl _) _).block _ (by simp)]
      exact heap_alloc_new w _
    · rw [hb.block _ (by simp)]
      have := heap_alloc_new (w.alloc (.cells (tabC 0) 123)) (.cells (tabC 0) 123)
      rw [World.size_alloc] at this
      exact this
    · rcases Nat.lt_or_ge g w1.heap.size with h' | h'
      · exact h'
      · rw [Array.getElem?_eq_none h'] at hh; cases hh
    · obtain ⟨g2, off, cap2, hv2, hc2⟩ := hSl.open (by rw [spL_len]; omega)
      simp only [Value.slice.injEq, Option.some.injEq, Addr.mk.injEq] at hv2
      obtain ⟨⟨rfl, rfl, _⟩, _⟩ := hv2
      have := hc2 j u hu
      simpa using this
    · exact Sl.bstep (by go_grown) hb
  clear hown hb hSl
  have hlen : ∀ W : World, (Builtin.len_ #[46] 3 #[.slice (some ⟨g, 0, none⟩) 15 cap]).run Try.prog W = .ok (.int .i64 15) W := fun W => run_len_slice (P := Try.prog) (w := W) 46 3 (some ⟨g, 0, none⟩) 15 cap Try.underlying46
  have HT := Lib.hid hT
  clear hT
  go_wp2
  go_simp
  go_wp2
  go_loopw [13] (fun i wr => ∃ k : Nat, k ≤ 15 ∧ i = .int .i64 k ∧ TI w g (TS (k * 225)) wr) (fun i _ => 15 - (intOf i).toNat)
  case atStart => exact ⟨0, by omega, rfl, HT.out⟩
  case round =>
    obtain ⟨wo, rfl⟩ : ∃ wo : World, wo = wr := ⟨_, rfl⟩
    obtain ⟨k, hk, rfl, hT⟩ := hrel
    by_cases hlt : k < 15
    · have h15 : decide ((k : Int) < 15) = true := by simp; omega
      have c0 : wo.cell? ⟨g, k * 2, none⟩ = some (.int .i64 (spA k)) := hT.2.2.2.2.1 _ _ (flat_get0 spL k (by rw [spL_len]; omega))
      have c1 : wo.cell? ⟨g, k * 2 + 1, none⟩ = some (.int .i64 (spB k)) := hT.2.2.2.2.1 _ _ (flat_get1 spL k (by rw [spL_len]; omega))
      have hg0 := hT.2.2.2.1
      have hB0 := hT.2.2.2.2.2.2
      go_wp2
      go_simp
      go_wp2
      go_loopw [19] (fun i wr => ∃ j : Nat, j ≤ 15 ∧ i = .int .i64 j ∧ TI w g (TS (k * 225 + j * 15)) wr ∧ wr.cell? ⟨wo.heap.size, 0, none⟩ = some (.int .i64 (spA k)) ∧ wr.cell? ⟨wo.heap.size, 1, none⟩ = some (.int .i64 (spB k))) (fun i _ => 15 - (intOf i).toNat)
      case atStart =>
        refine ⟨0, by omega, rfl, by simpa using hT.alloc _, by simp, by simp⟩
      case round =>
        obtain ⟨wp, rfl⟩ : ∃ wp : World, wp = wr := ⟨_, rfl⟩
        obtain ⟨j, hj, rfl, hT2, a0, a1⟩ := hrel
        by_cases hlj : j < 15
        · have j15 : decide ((j : Int) < 15) = true := by simp; omega
          have d0 : wp.cell? ⟨g, j * 2, none⟩ = some (.int .i64 (spA j)) := hT2.2.2.2.2.1 _ _ (flat_get0 spL j (by rw [spL_len]; omega))
          have d1 : wp.cell? ⟨g, j * 2 + 1, none⟩ = some (.int .i64 (spB j)) := hT2.2.2.2.2.1 _ _ (flat_get1 spL j (by rw [spL_len]; omega))
          have ng : g < wp.heap.size := block_of_cell d0
          have na : wo.heap.size < wp.heap.size := block_of_cell a0
          have nb : w.heap.size + 2 ≤ wo.heap.size := hB0
          go_wp2_with fail
          refine (of_sp k j hlt hlj _).mono ?_
          rintro e w2 ⟨rfl, hb⟩
          have hq : Below wp.heap.size wp w2 := Sl.bstep (by go_grown) hb
          have hT3 := hT2.step hq
          replace a0 := Sl.cell_kept a0 hq
          replace a1 := Sl.cell_kept a1 hq
          have b0 : w2.cell? ⟨wp.heap.size, 0, none⟩ = some (.int .i64 (spA j)) := Sl.cell_kept (by simp) hb
          have b1 : w2.cell? ⟨wp.heap.size, 1, none⟩ = some (.int .i64 (spB j)) := Sl.cell_kept (by simp) hb
          have np := hq.size
          clear hq hb hT2 d0 d1 c0 c1
          have HT3 := Lib.hid hT3
          clear hT3
          go_wp2
          go_simp
          go_wp2
          go_loopw [28] (fun i wr => ∃ m : Nat, m ≤ 15 ∧ i = .int .i64 m ∧ TI w g (TS (k * 225 + j * 15 + m)) wr ∧ wr.cell? ⟨wo.heap.size, 0, none⟩ = some (.int .i64 (spA k)) ∧ wr.cell? ⟨wo.heap.size, 1, none⟩ = some (.int .i64 (spB k)) ∧ wr.cell? ⟨wp.heap.size, 0, none⟩ = some (.int .i64 (spA j)) ∧ wr.cell? ⟨wp.heap.size, 1, none⟩ = some (.int .i64 (spB j))) (fun i _ => 15 - (intOf i).toNat)
          case atStart => exact ⟨0, by omega, rfl, HT3.out, a0, a1, b0, b1⟩
          case round =>
            obtain ⟨wq, rfl⟩ : ∃ wq : World, wq = wr := ⟨_, rfl⟩
            obtain ⟨m, hm, rfl, hT4, p0, p1, q0, q1⟩ := hrel
            by_cases hlm : m < 15
            · have m15 : decide ((m : Int) < 15) = true := by simp; omega
              have f0 : wq.cell? ⟨g, m * 2, none⟩ = some (.int .i64 (spA m)) := hT4.2.2.2.2.1 _ _ (flat_get0 spL m (by rw [spL_len]; omega))
              have f1 : wq.cell? ⟨g, m * 2 + 1, none⟩ = some (.int .i64 (spB m)) := hT4.2.2.2.2.1 _ _ (flat_get1 spL m (by rw [spL_len]; omega))
              have mg : g < wq.heap.size := block_of_cell f0
              have ma : wo.heap.size < wq.heap.size := block_of_cell p0
              have mb : wp.heap.size < wq.heap.size := block_of_cell q0
              have r1 := (rl_all k hlt j hlj).2
              have r2 := (rl_all j hlj m hlm).2
              have r3 := (rl_all k hlt m hlm).2
              have hp169 : rl k j * 13 + rl j m < 169 := by omega
              have HT4 := Lib.hid hT4
              clear hT4
              have i1 : (0 : Int) ≤ ((rl k j : Nat) : Int) := by omega
              have i2 : ((rl k j : Nat) : Int) < 13 := by omega
              have i3 : (0 : Int) ≤ ((rl j m : Nat) : Int) := by omega
              have i4 : ((rl j m : Nat) : Int) < 13 := by omega
              have i5 : (0 : Int) ≤ ((rl k m : Nat) : Int) := by omega
              have hpw := wrap_pw (rl k m) (by omega)
              have hor : bits .or .i64 ((rowP (TS (k * 225 + j * 15 + m)) (rl k j * 13 + rl j m) : Nat) : Int) ((pw (rl k m) : Nat) : Int) = ((rowP (TS (k * 225 + j * 15 + m)) (rl k j * 13 + rl j m) ||| 2 ^ rl k m : Nat) : Int) := by
                rw [bits_or _ _ (by have := rowP_lt (TS (k * 225 + j * 15 + m)) (rl k j * 13 + rl j m); omega) (by have := pow_lt (rl k m) (by omega); unfold pw; omega)]; rfl
              go_upto_region 13 with fail
              obtain ⟨W, hW⟩ : ∃ W, W = wq.alloc (Obj.cells #[.int .i64 (spA m), .int .i64 (spB m)] 48) := ⟨_, rfl⟩
              have hbW : Below wq.heap.size wq W := by rw [hW]; exact (Below.refl _ _).alloc (Nat.le_refl _) _
              have e0 : W.cell? ⟨wq.heap.size, 0, none⟩ = some (.int .i64 (spA m)) := by rw [hW]; simp
              have e1 : W.cell? ⟨wq.heap.size, 1, none⟩ = some (.int .i64 (spB m)) := by rw [hW]; simp
              have hT5 := HT4.out.step hbW
              have P0 := Sl.cell_kept p0 hbW
              have P1 := Sl.cell_kept p1 hbW
              have Q0 := Sl.cell_kept q0 hbW
              have Q1 := Sl.cell_kept q1 hbW
              rw [← hW]
              clear hW p0 p1 q0 q1 a0 a1 b0 b1 f0 f1
              have k0 := cell_regrown P0
              have k1 := cell_regrown P1
              have k2 := cell_regrown Q0
              have k3 := cell_regrown Q1
              have k4 := cell_regrown e0
              have k5 := cell_regrown e1
              have k6 := cell_regrown (hT5.cell _ hp169)
              have HT5 := Lib.hid hT5
              have HK := Lib.hid (And.intro P0 (And.intro P1 (And.intro Q0 Q1)))
              clear hT5 P0 P1 Q0 Q1 e0 e1
              refine Lst.wp_region_below_lastN 14 rfl rfl (by kernel_rfl) (by kernel_rfl) (by kernel_rfl) ?_
              simp only [List.take_succ_cons, List.take_zero]
              repeat (go_big_quiet_step (first | (go_at_call 31; with_reducible exact Calls.regrown_of (of_sp j m hlj hlm _)) | (go_at_call 31; with_reducible exact Calls.regrown_of (of_sp k m hlt hlm _))))
              refine wpQuiet_nil ?_
              intro w9 hb9
              refine ⟨by rfl, ?_⟩
              have hT6 := HT5.out.step hb9
              have c9 := hT6.cell _ hp169
              have f9 := hT6.frozen (rl k j * 13 + rl j m)
              go_simp
              have hp' := rl_all k hlt j hlj
              have hbit : bitAt (k * 225 + j * 15 + m) = 13 * (rl k j * 13 + rl j m) + rl k m := by
                unfold bitAt
                rw [show (k * 225 + j * 15 + m) / 225 = k by omega, show (k * 225 + j * 15 + m) / 15 % 15 = j by omega, show (k * 225 + j * 15 + m) % 15 = m by omega]
              have hst := hT6.store hp169 r3
              rw [← hbit] at hst
              have hK2 := HK.out
              have R0 := cell_tab (p := rl k j * 13 + rl j m) (u := .int .i64 ((rowP (TS (k * 225 + j * 15 + m)) (rl k j * 13 + rl j m) ||| 2 ^ rl k m : Nat) : Int)) (w := w) (Sl.cell_kept hK2.1 hb9) (by omega)
              have R1 := cell_tab (p := rl k j * 13 + rl j m) (u := .int .i64 ((rowP (TS (k * 225 + j * 15 + m)) (rl k j * 13 + rl j m) ||| 2 ^ rl k m : Nat) : Int)) (w := w) (Sl.cell_kept hK2.2.1 hb9) (by omega)
              have R2 := cell_tab (p := rl k j * 13 + rl j m) (u := .int .i64 ((rowP (TS (k * 225 + j * 15 + m)) (rl k j * 13 + rl j m) ||| 2 ^ rl k m : Nat) : Int)) (w := w) (Sl.cell_kept hK2.2.2.1 hb9) (by omega)
              have R3 := cell_tab (p := rl k j * 13 + rl j m) (u := .int .i64 ((rowP (TS (k * 225 + j * 15 + m)) (rl k j * 13 + rl j m) ||| 2 ^ rl k m : Nat) : Int)) (w := w) (Sl.cell_kept hK2.2.2.2 hb9) (by omega)
              have RR := Lib.hid (And.intro hst (And.intro R0 (And.intro R1 (And.intro R2 R3))))
              clear hst R0 R1 R2 R3 hK2 hT6 c9 f9 k0 k1 k2 k3 k4 k5 k6
              go_wp2
              go_roundw
              case rel => exact ⟨m + 1, by omega, by go_num, RR.out.1, RR.out.2.1, RR.out.2.2.1, RR.out.2.2.2.1, RR.out.2.2.2.2⟩
              case measure => simp [intOf]; omega
            · obtain rfl : m = 15 := by omega
              have HT5 := Lib.hid hT4
              clear hT4
              go_wp2
              go_roundw
              case rel => exact ⟨j + 1, by omega, by go_num, by rw [show k * 225 + (j + 1) * 15 = k * 225 + j * 15 + 15 by omega]; exact HT5.out, p0, p1⟩
              case measure => simp [intOf]; omega
        · obtain rfl : j = 15 := by omega
          have HT5 := Lib.hid hT2
          clear hT2
          go_wp2
          go_roundw
          case rel => exact ⟨k + 1, by omega, by go_num, by rw [show (k + 1) * 225 = k * 225 + 15 * 15 by omega]; exact HT5.out⟩
          case measure => simp [intOf]; omega
    · obtain rfl : k = 15 := by omega
      have HT5 := Lib.hid hT
      clear hT
      go_wp2
      obtain ⟨h1, h2, h3, h4, h5, h6, h7⟩ := HT5.out
      refine wp_load_row 123 (.tmp 1) rfl (w.heap.size + 1) rfl (tabC (TS (15 * 225))) _ _ _ h2 Try.underlying123 rfl (by rw [tabC_size]; exact s47) ?_
      rename_i hK
      refine hK _ _ ?_
      refine wpList_step fun K2 hK2 => ?_
      rw [if_pos (by rfl)]
      refine wp_store_row 123 (.tmp 0) (.tmp 49) rfl w.heap.size (tabC (TS (15 * 225))) rfl rfl (tabC 0) _ h1 (by rw [tabC_size]; exact s47) (by rw [tabC_size, tabC_size]) (tabC_one _) ?_
      intro wz hz hbz
      refine hK2 _ _ ?_
      refine wpList_nil ?_
      have hld := run_loadVar_row wz w.heap.size 123 123 (tabC (TS (15 * 225))) (0, 0) _ hz Try.underlying123 rfl (by rw [tabC_size]; exact s47)
      have hbw : Below w.heap.size w wz := h6.trans hbz
      go_wp2
      exact bodyPost_ret (results_cell1 Try.results104 rfl hld) rfl ⟨rfl, hbw⟩
end Go.Proofs.Ytoadihclmnjjnaa.Al
