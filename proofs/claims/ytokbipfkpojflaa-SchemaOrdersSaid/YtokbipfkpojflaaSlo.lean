/-
  Order: what the reference's loops reckon; the walk of the reference's Order (layer 34); the walk of the law SchemaOrders.
-/
import Derived.Test.YtokbipfkpojflaaScO
import Derived.Test.YtokbipfkpojflaaSrf
import Derived.Test.YtokbipfkpojflaaSx
import Derived.Test.YtokbipfkpojflaaSop
set_option linter.unusedSimpArgs false
set_option linter.unusedVariables false
namespace Go.Proofs.Ytokbipfkpojflaa.Sc
open Go Go.RowKit Go.Proofs.Ytokbipfkpojflaa.Sl Go.Lib

/-- None of the others that are left is referred to. -/
def frK (tk : List Bool) (y : Sch) (i : Nat) : Nat → List Sch → Bool
  | _, [] => true
  | k, z :: r => !(decide (k ≠ i) && !(tk[k]?.getD false) && refS z.name y) && frK tk y i (k + 1) r
theorem frK_step (tk : List Bool) (y : Sch) (i : Nat) (l : List Sch) (k : Nat) (z : Sch) (h : l[k]? = some z) : frK tk y i k (l.drop k) = (!(decide (k ≠ i) && !(tk[k]?.getD false) && refS z.name y) && frK tk y i (k + 1) (l.drop (k + 1))) := by
  have hk : k < l.length := (List.getElem?_eq_some_iff.1 h).1
  rw [List.drop_eq_getElem_cons hk, frK, (List.getElem?_eq_some_iff.1 h).2]
theorem frK_no (tk : List Bool) (y : Sch) (i : Nat) : ∀ (l : List Sch) (k : Nat), frK tk y i k l = false ↔ ∃ (q : Nat) (z : Sch), l[q]? = some z ∧ k + q ≠ i ∧ tk[k + q]?.getD false = false ∧ refS z.name y = true
  | [], k => by simp [frK]
  | z :: r, k => by
    rw [frK, Bool.and_eq_false_iff, frK_no tk y i r (k + 1)]
    constructor
    · rintro (h | ⟨q, x, h1, h2, h3, h4⟩)
      · simp only [Bool.not_eq_false', Bool.and_eq_true, decide_eq_true_eq, Bool.not_eq_true'] at h
        exact ⟨0, z, rfl, h.1.1, h.1.2, h.2⟩
      · exact ⟨q + 1, x, h1, by omega, by rw [show k + (q + 1) = k + 1 + q by omega]; exact h3, h4⟩
    · rintro ⟨q, x, h1, h2, h3, h4⟩
      cases q with
      | zero =>
        simp at h1
        subst h1
        left
        simp only [Bool.not_eq_false', Bool.and_eq_true, decide_eq_true_eq, Bool.not_eq_true']
        exact ⟨⟨h2, h3⟩, h4⟩
      | succ q => exact .inr ⟨q, x, h1, by omega, by rw [show k + 1 + q = k + (q + 1) by omega]; exact h3, h4⟩
/-- The reference's choice. -/
def idxQ (tk : List Bool) (all : List Sch) : Nat → List Sch → Int
  | _, [] => -1
  | k, y :: r => if (!(tk[k]?.getD false) && frK tk y k 0 all) = true then (k : Int) else idxQ tk all (k + 1) r
theorem idxQ_step (tk : List Bool) (all : List Sch) (l : List Sch) (k : Nat) (y : Sch) (h : l[k]? = some y) : idxQ tk all k (l.drop k) = if (!(tk[k]?.getD false) && frK tk y k 0 all) = true then (k : Int) else idxQ tk all (k + 1) (l.drop (k + 1)) := by
  have hk : k < l.length := (List.getElem?_eq_some_iff.1 h).1
  rw [List.drop_eq_getElem_cons hk, idxQ, (List.getElem?_eq_some_iff.1 h).2]
/-- What stands in the list of the taken ones. -/
def TkR (l : List Sch) (tk : List Bool) (out : List ByteArray) : Prop := ∀ (k : Nat) (x : Sch), l[k]? = some x → tk[k]?.getD false = Lib.containsS out x.name
theorem fndS_no (name : ByteArray) : ∀ (l : List Sch) (k : Nat), fndS name k l < 0 → ∀ s ∈ l, s.name ≠ name
  | [], _, _ => by simp
  | c :: l, k, h => by
    unfold fndS at h
    by_cases hc : c.name = name
    · rw [if_pos hc] at h; omega
    · rw [if_neg hc] at h
      intro s hs
      rcases List.mem_cons.1 hs with rfl | hs
      · exact hc
      · exact fndS_no name l (k + 1) h s hs
theorem fndS_yes (name : ByteArray) : ∀ (l : List Sch) (k : Nat), ¬ fndS name k l < 0 → ∃ (q : Nat) (z : Sch), l[q]? = some z ∧ z.name = name
  | [], _, h => by simp [fndS] at h
  | c :: l, k, h => by
    unfold fndS at h
    by_cases hc : c.name = name
    · exact ⟨0, c, rfl, hc⟩
    · rw [if_neg hc] at h
      obtain ⟨q, z, h1, h2⟩ := fndS_yes name l (k + 1) h
      exact ⟨q + 1, z, h1, h2⟩
theorem fltA_dist (all : List Sch) : ∀ (l : List Sch) (i : Nat), fltA all i l = none → ∀ (q : Nat) (s : Sch), l[q]? = some s → fndS s.name 0 (all.take (i + q)) < 0
  | [], i, _ => by simp
  | s :: l, i, h => by
    unfold fltA at h
    by_cases h1 : vldS s = false
    · rw [if_pos h1] at h; cases h
    · rw [if_neg h1] at h
      by_cases h2 : 0 ≤ fndS s.name 0 (all.take i)
      · rw [if_pos h2] at h; cases h
      · rw [if_neg h2] at h
        intro q x hx
        cases q with
        | zero => simp at hx; subst hx; simpa using h2
        | succ q => rw [show i + (q + 1) = i + 1 + q by omega]; exact fltA_dist all l (i + 1) h q x (by simpa using hx)
theorem fltF_all (all : List Sch) (s : Sch) : ∀ (l : List Fr), fltF all s l = none → ∀ f ∈ l, ¬ fndS f.tab 0 all < 0
  | [], _ => by simp
  | f :: l, h => by
    unfold fltF at h
    by_cases h1 : fndS f.tab 0 all < 0
    · rw [if_pos h1] at h; cases h
    · rw [if_neg h1] at h
      split at h
      · cases h
      · intro x hx
        rcases List.mem_cons.1 hx with rfl | hx
        · exact h1
        · exact fltF_all all s l h x hx
theorem fltG_all (all : List Sch) : ∀ (l : List Sch), fltG all l = none → ∀ s ∈ l, fltF all s s.frn = none
  | [], _ => by simp
  | s :: l, h => by
    unfold fltG at h
    cases hf : fltF all s s.frn with
    | some x => rw [hf] at h; cases h
    | none =>
      rw [hf] at h
      intro x hx
      rcases List.mem_cons.1 hx with rfl | hx
      · exact hf
      · exact fltG_all all l h x hx
theorem fltF_code (all : List Sch) (s : Sch) : ∀ (l : List Fr) x, fltF all s l = some x → ¬ x.2 = 0
  | [], x, h => by simp [fltF] at h
  | f :: l, x, h => by
    unfold fltF at h
    by_cases h1 : fndS f.tab 0 all < 0
    · rw [if_pos h1] at h; simp only [Option.some.injEq] at h; subst h; simp
    · rw [if_neg h1] at h
      split at h
      · simp only [Option.some.injEq] at h; subst h; simp
      · exact fltF_code all s l x h
theorem fltG_code (all : List Sch) : ∀ (l : List Sch) x, fltG all l = some x → ¬ x.2 = 0
  | [], x, h => by simp [fltG] at h
  | s :: l, x, h => by
    unfold fltG at h
    cases hf : fltF all s s.frn with
    | some y => rw [hf] at h; simp only [Option.some.injEq] at h; subst h; exact fltF_code all s _ _ hf
    | none => rw [hf] at h; exact fltG_code all l x h
/-- Behind All: no name stands twice, and each table that is referred to is there. -/
theorem allS_more {l : List Sch} (h : (allS l).2 = 0) : (∀ (i k : Nat) (x y : Sch), l[i]? = some x → l[k]? = some y → x.name = y.name → i = k) ∧ ∀ s ∈ l, ∀ f ∈ s.frn, ∃ (q : Nat) (z : Sch), l[q]? = some z ∧ z.name = f.tab := by
  unfold allS at h
  by_cases h8 : 8 < l.length
  · rw [if_pos h8] at h; simp at h
  · rw [if_neg h8] at h
    cases ha : fltA l 0 l with
    | some x =>
      rw [ha] at h
      rcases fltA_code l l 0 with ⟨y, hy, h0⟩ | ⟨hy, _⟩
      · rw [ha] at hy; cases hy; exact absurd h h0
      · rw [ha] at hy; cases hy
    | none =>
      rw [ha] at h
      cases hg : fltG l l with
      | some x => rw [hg] at h; exact absurd h (fltG_code l l x hg)
      | none =>
        have hd : ∀ (i k : Nat) (x y : Sch), i < k → l[i]? = some x → l[k]? = some y → x.name ≠ y.name := by
          intro i k x y hik hx hy
          have h1 := fltA_dist l l 0 ha k y hy
          rw [Nat.zero_add] at h1
          refine fndS_no y.name _ 0 h1 x ?_
          refine List.mem_of_getElem? (i := i) ?_
          rw [List.getElem?_take, if_pos hik]; exact hx
        refine ⟨fun i k x y hx hy e => ?_, fun s hs f hf => fndS_yes f.tab l 0 (fltF_all l s s.frn (fltG_all l l hg s hs) f hf)⟩
        rcases Nat.lt_trichotomy i k with h | h | h
        · exact absurd e (hd i k x y h hx hy)
        · exact h
        · exact absurd e.symm (hd k i y x h hy hx)
theorem choice_is {l : List Sch} (hl : (allS l).2 = 0) {tk : List Bool} {out : List ByteArray} (hr : TkR l tk out) (k : Nat) (x : Sch) (hx : l[k]? = some x) : (!(tk[k]?.getD false) && frK tk x k 0 l) = rdyS out x := by
  obtain ⟨hd, hf⟩ := allS_more hl
  unfold rdyS
  rw [hr k x hx]
  congr 1
  suffices h : frK tk x k 0 l = false ↔ x.frn.any (waitF x.name out) = true by
    generalize frK tk x k 0 l = a at h ⊢
    generalize x.frn.any (waitF x.name out) = b at h ⊢
    cases a <;> cases b <;> simp_all
  rw [frK_no, List.any_eq_true]
  constructor
  · rintro ⟨q, z, h1, h2, h3, h4⟩
    rw [Nat.zero_add] at h2 h3
    unfold refS at h4
    rw [List.any_eq_true] at h4
    obtain ⟨f, hm, he⟩ := h4
    simp only [decide_eq_true_eq] at he
    refine ⟨f, hm, ?_⟩
    unfold waitF
    rw [he, ← hr q z h1, h3]
    have : z.name ≠ x.name := fun e => h2 (hd q k z x h1 hx e)
    simp [this]
  · rintro ⟨f, hm, hw⟩
    obtain ⟨q, z, h1, h2⟩ := hf x (List.mem_of_getElem? hx) f hm
    unfold waitF at hw
    rw [← h2, ← hr q z h1] at hw
    simp only [Bool.and_eq_true, Bool.not_eq_true', decide_eq_false_iff_not] at hw
    refine ⟨q, z, h1, ?_, ?_, ?_⟩
    · rw [Nat.zero_add]
      rintro rfl
      rw [hx] at h1
      cases h1
      exact hw.1 rfl
    · rw [Nat.zero_add]; exact hw.2
    · unfold refS
      rw [List.any_eq_true]
      exact ⟨f, hm, by simp [h2]⟩
theorem idxQ_is {all : List Sch} (hl : (allS all).2 = 0) {tk : List Bool} {out : List ByteArray} (hr : TkR all tk out) : ∀ (l : List Sch) (k : Nat), (∀ q y, l[q]? = some y → all[k + q]? = some y) → idxQ tk all k l = idxP (rdyS out) k l
  | [], k, _ => rfl
  | y :: l, k, h => by
    have hk := h 0 y rfl
    rw [Nat.add_zero] at hk
    unfold idxQ idxP
    rw [choice_is hl hr k y hk, idxQ_is hl hr l (k + 1) (fun q z hz => by rw [show k + 1 + q = k + (q + 1) by omega]; exact h (q + 1) z (by simpa using hz))]
theorem choose_is {l : List Sch} (hl : (allS l).2 = 0) {tk : List Bool} {out : List ByteArray} (hr : TkR l tk out) : idxQ tk l 0 l = idxP (rdyS out) 0 l := idxQ_is hl hr l 0 (fun q y h => by rw [Nat.zero_add]; exact h)
theorem contains_snoc (out : List ByteArray) (x y : ByteArray) : Lib.containsS (out ++ [x]) y = (Lib.containsS out y || decide (y = x)) := by
  rw [Bool.eq_iff_iff, Lib.containsS_iff, Bool.or_eq_true, Lib.containsS_iff]
  simp
theorem tkR_set {l : List Sch} (hl : (allS l).2 = 0) {tk : List Bool} {out : List ByteArray} (hr : TkR l tk out) (ht : tk.length = l.length) (k : Nat) (x : Sch) (hx : l[k]? = some x) : TkR l (tk.set k true) (out ++ [x.name]) := by
  obtain ⟨hd, _⟩ := allS_more hl
  intro q z hz
  rw [contains_snoc, ← hr q z hz, List.getElem?_set]
  have hk : k < tk.length := by rw [ht]; exact (List.getElem?_eq_some_iff.1 hx).1
  by_cases h : k = q
  · subst h
    rw [hx] at hz
    cases hz
    rw [if_pos rfl]
    simp [hk]
  · rw [if_neg h]
    have : z.name ≠ x.name := fun e => h (hd q k z x hz hx e).symm
    simp [this]
theorem tkR_nil (l : List Sch) (n : Nat) : TkR l (List.replicate n false) [] := by
  intro k x _
  rw [List.getElem?_replicate]
  by_cases h : k < n
  · rw [if_pos h]; rfl
  · rw [if_neg h]; rfl
end Go.Proofs.Ytokbipfkpojflaa.Sc
namespace Go.Proofs.Ytokbipfkpojflaa.Sc
open Go Go.RowKit Go.ChangeShapes Go.WideShapes Go.Proofs.Ytokbipfkpojflaa.Sl Go.Proofs.Ytokbipfkpojflaa.Va Go.Lib

theorem infoB : (Try.prog.info? 4).map (fun i => (i.zero, i.size, i.bytes)) = some (some (.bool false), 1, 1) := by kernel_rfl
theorem made_bools (n : Nat) : madeCells #[.bool false] (n * 1) = ((List.replicate n false).map Value.bool).toArray := by
  rw [Nat.mul_one, List.map_replicate]
  apply Array.ext
  · simp [madeCells]
  · intro i h1 h2
    simp [madeCells, Nat.mod_one]
theorem bools_new (n : Nat) : ((List.replicate n false).map Value.bool).toArray = Array.replicate n (.bool false) := by simp
theorem mk_bools (n : Nat) (hn : n ≤ 1000000) (w : World) : (Instr.makeSlice 87 (.int .i64 (n : Int)) (.int .i64 (n : Int))).run Try.prog w = .ok (.slice (some ⟨w.heap.size, 0, none⟩) n n) (w.alloc (.cells (Array.replicate n (.bool false)) 4)) := by
  obtain ⟨i0, hi, hz0, hz1, hz2⟩ := info_parts infoB
  have h := run_make (P := Try.prog) w 87 4 i0 (.bool false) Try.underlying87 hi hz0 .i64 .i64 n n (by omega) (Int.le_refl _) (by rw [hz2]; omega) (by omega)
  rw [Int.toNat_natCast, hz1] at h
  rw [h, show Value.cells (.bool false) = #[.bool false] from rfl, made_bools, bools_new]
/-- What Order's loops keep: the taken ones, and the names. -/
def OdI (w : World) (TB : Nat) (tk : List Bool) (out : List ByteArray) (v : Value) (W : World) : Prop := Bx W TB 4 (tk.map Value.bool).toArray ∧ W.ownsRow (TB + 1) 9 1 v out.length (out.map .string) ∧ w.heap.size ≤ TB ∧ Below w.heap.size w W
theorem own_keep {W W' : World} {b : Nat} {v : Value} {n : Nat} {xs : List Value} {t : TypeId} (h : W.ownsRow b t 1 v n xs) (hb : ∀ g, b ≤ g → g < W.heap.size → W'.heap[g]? = W.heap[g]?) : W'.ownsRow b t 1 v n xs := by
  obtain ⟨h1, h2⟩ := h
  refine ⟨h1, ?_⟩
  rcases h2 with ⟨q1, q2⟩ | ⟨g, cap, cur, q3, hg, hh, h3⟩
  · exact .inl ⟨q1, q2⟩
  · refine .inr ⟨g, cap, cur, q3, hg, ?_, h3⟩
    rw [hb g hg (Array.getElem?_eq_some_iff.1 hh).1]; exact hh
theorem OdI.below {w W W' : World} {TB : Nat} {tk : List Bool} {out : List ByteArray} {v : Value} (h : OdI w TB tk out v W) (hb : Below W.heap.size W W') : OdI w TB tk out v W' := ⟨h.1.below hb, own_keep h.2.1 (fun g _ hg => hb.block g hg), h.2.2.1, bstep h.2.2.2 hb⟩
theorem OdI.set {w W : World} {TB : Nat} {tk : List Bool} {out : List ByteArray} {v : Value} (h : OdI w TB tk out v W) (k : Nat) (hk : k < tk.length) : OdI w TB (tk.set k true) out v (W.setCell ⟨TB, k, none⟩ (.bool true)) := by
  refine ⟨h.1.sett k (.bool true) (by simpa using hk) (by simp), own_keep h.2.1 (fun g hg hlt => (gp_set1 W TB k _).block g hlt (by simp; omega)), h.2.2.1, h.2.2.2.setCell h.2.2.1 _⟩
theorem OdI.ss {w W : World} {TB : Nat} {tk : List Bool} {out : List ByteArray} {v : Value} (h : OdI w TB tk out v W) : Ss W v out := by
  refine ⟨Sl.of_owns h.2.1, ?_⟩
  rcases own_shape h.2.1 with rfl | ⟨g, cap, rfl, hc⟩
  · exact Cap.mk (Nat.le_refl _)
  · exact Cap.mk hc
theorem wp_od {ops : Array Oper} {rest : List Oper} {o : Oper} {a : Act} {Q : Exit → Act → World → Prop} {W0 w : World} {TB : Nat} {tk : List Bool} {v : Value} {l : List ByteArray} (hB : OdI W0 TB tk l v w) (hgd : o.guard = none) (s x : Operand)
    (ho : o.op = .call { callee := .builtin .append, args := #[s, x], argTypes := #[38, 38] }) (hs : a.eval s = v) {H : Nat} (te : TypeId)
    (hx : a.eval x = .slice (some ⟨H, 0, none⟩) 1 1) (hH : w.heap.size = H) (u : ByteArray) (hlen : l.length ≤ 1000000)
    (h : ∀ v' w', OdI W0 TB tk (l ++ [u]) v' w' → wpList Try.prog ops Q rest (a.put o.dst v') w') : wpList Try.prog ops Q (o :: rest) a (w.alloc (.cells #[.string u] te)) := by
  obtain ⟨i0, hi, hz0, hz1, hz2⟩ := info_parts infoS
  subst hH
  have ho1 := hB.2.1.alloc (.cells #[.string u] te)
  have hlt := hB.1.lt
  refine wpList_append_lies _ hgd s x _ ho (TB + 1) _ i0 _ 1 16 Try.underlying38 hi hz0 hz1 hz2 rfl (by decide) v l.length (l.map .string) hs ho1 ⟨w.heap.size, 0, none⟩ 1 1 [.string u] hx rfl (cells_new w [.string u] te) (by intro x hx; simp at hx; subst hx; rfl) (by omega) (by unfold maxLen; omega) (by omega) (by simp; omega) (w.heap.size + 1) (by simp) ?_
  intro g cap w' h2 h3 _ _
  refine h _ w' ⟨(hB.1.alloc _).far h3 (fun e => by have := (ho1.lt _ e.symm).1; omega), ?_, hB.2.2.1, (hB.2.2.2.alloc hB.2.2.2.size _).grown h3 (by have := hB.2.2.2.size; simp; omega) (fun k hk => by have := (ho1.lt k hk).1; have := hB.2.2.1; omega)⟩
  rw [List.map_append, List.length_append]
  exact h2
theorem rorder_bad (l : List Sch) (s : Value) (w : World) (hs : LsAt w s l) (h : ¬ (allS l).2 = 0) : Calls Try.prog 19 #[s] w fun e w' => e = .returned (.tuple #[.slice none 0 0, .int .i64 (allS l).2]) ∧ Below w.heap.size w w' := by
  have HA := rall_any l s w hs
  obtain ⟨a, c, rfl, _⟩ := Nest.form hs
  generalize (allS l).1 = x at HA
  generalize (allS l).2 = y at HA h ⊢
  have h2 : (y != 0) = true := by simpa using h
  clear hs
  go_enter Try.func19, Try.ntmps19
  go_wp2_with (go_at_call 15; (with_reducible refine HA.mono ?_); rintro e w1 ⟨rfl, hb⟩)
  go_ret2
  exact ⟨rfl, hb⟩
set_option maxRecDepth 20000 in
set_option maxHeartbeats 8000000 in
theorem rorder_go (l : List Sch) (a : Option Addr) (n c : Nat) (w : World) (hn : n = l.length) (hs : LsAt w (.slice a n c) l) (h : (allS l).2 = 0) :
    Calls Try.prog 19 #[.slice a n c] w fun e w' => ∃ v, e = .returned (.tuple #[v, .int .i64 (ordS l).2]) ∧ Ss w' v (ordS l).1 ∧ Below w.heap.size w w' := by
  have HA := rall_any l _ w hs
  obtain ⟨h8, hv⟩ := allS_ok h
  have HO := Lib.hid (show ordS l = (match ordF l (n - ([] : List ByteArray).length) [] with | some o => (o, 0) | none => ([], 17)) by unfold ordS; rw [if_pos h, hn]; rfl)
  have HH := Lib.hid h
  rw [h] at HA
  generalize (allS l).1 = x at HA
  generalize ordS l = R at HO ⊢
  have HN := Lib.hid hn
  have HS := Lib.hid hs
  have HV := Lib.hid hv
  have n8 : (n : Int) ≤ 8 := by omega
  have hmk := mk_bools n (by omega)
  clear hs h hn hv h8
  go_enter Try.func19, Try.ntmps19
  go_upto_region 6 with (go_at_call 15; (with_reducible refine HA.mono ?_); rintro e w1 ⟨rfl, hb⟩)
  have hI0 : OdI w w1.heap.size (List.replicate n false) [] (.slice none 0 0) (w1.alloc (.cells (Array.replicate n (.bool false)) 4)) := ⟨bools_new n ▸ Bx.new _ _ _, World.ownsRow_nil _ _ _ _, hb.size, hb.alloc hb.size _⟩
  clear HA hmk
  generalize w1.alloc (.cells (Array.replicate n (.bool false)) 4) = W1 at *
  generalize w1.heap.size = TB at *
  go_loopw [6] (fun v wr => ∃ (tk : List Bool) (out : List ByteArray), out.length ≤ n ∧ tk.length = n ∧ TkR l tk out ∧ Hid (R = match ordF l (n - out.length) out with | some o => (o, 0) | none => ([], 17)) ∧ OdI w TB tk out v wr) (fun v _ => n - lenV (some v))
  case atStart => exact ⟨List.replicate n false, [], Nat.zero_le _, by simp, tkR_nil l n, Lib.hid HO.out, hI0⟩
  case round =>
    obtain ⟨tk, out, ho, htl, hTR, HI, hOd⟩ := hrel
    obtain ⟨va, vc, e0, hvc⟩ := hOd.ss.form
    obtain ⟨m, hm⟩ : ∃ m, m = out.length := ⟨_, rfl⟩
    have HM := Lib.hid hm
    have HTL := Lib.hid htl
    have HTR := Lib.hid hTR
    rw [← hm] at e0
    subst e0
    by_cases hlt : m < n
    · have HCH := Lib.hid (choose_is HH.out hTR)
      obtain ⟨Z, hZ⟩ : ∃ Z, idxQ tk l 0 l = Z := ⟨_, rfl⟩
      have HZ := Lib.hid hZ
      have hm0 : (m : Int) < (n : Int) := by omega
      clear hm htl hTR hZ ho
      go_upto_region 9 with fail
      go_loopw [8, 9] (fun fv iv wr2 => ∃ (p : Nat) (fz : Int), p ≤ n ∧ fv = .int .i64 fz ∧ iv = .int .i64 p ∧ Hid ((fz = -1 ∧ idxQ tk l p (l.drop p) = Z) ∨ (0 ≤ fz ∧ fz = Z)) ∧ OdI w TB tk out (.slice va m vc) wr2) (fun _ iv _ => n - (intOf iv).toNat)
      case atStart => exact ⟨0, -1, Nat.zero_le _, rfl, rfl, Lib.hid (.inl ⟨rfl, HZ.out⟩), hOd⟩
      case round =>
        obtain ⟨p, fz, hp, rfl, rfl, HJ, hO2⟩ := hrel
        obtain ⟨wq, rfl⟩ : ∃ wq, wq = wr := ⟨_, rfl⟩
        by_cases hgo : p < n ∧ fz < 0
        · obtain ⟨hlt2, hfz⟩ := hgo
          have hJ : idxQ tk l p (l.drop p) = Z ∧ fz = -1 := by
            rcases HJ.out with h | h
            · exact ⟨h.2, h.1⟩
            · omega
          obtain ⟨hJ, rfl⟩ := hJ
          obtain ⟨g, off, cp, e1, hc⟩ := ls_get (HN.out ▸ HS.out) (by rw [← HN.out]; omega)
          simp only [Value.slice.injEq] at e1
          obtain ⟨rfl, _, rfl⟩ := e1
          have HC := Lib.hid hc
          obtain ⟨y, ht⟩ : ∃ t, l[p]? = some t := ⟨_, List.getElem?_eq_getElem (by rw [← HN.out]; exact hlt2)⟩
          obtain ⟨b1, d1, b2, d2, hcs, hfs, z0, z1, z2, z3⟩ := hc p y ht
          have hst := (idxQ_step tk l l p y ht).symm.trans hJ
          have hHF := Lib.hid hfs
          have hfl : y.frn.length ≤ 8 := (vld_key (HV.out y (List.mem_of_getElem? ht))).2.2.2.1
          obtain ⟨b, hb⟩ : ∃ b, tk[p]? = some b := ⟨_, List.getElem?_eq_getElem (by rw [HTL.out]; exact hlt2)⟩
          rw [hb] at hst
          simp only [Option.getD_some] at hst
          obtain ⟨F, hF⟩ : ∃ F, frK tk y p 0 l = F := ⟨_, rfl⟩
          have HF := Lib.hid hF
          rw [hF] at hst
          have HST := Lib.hid hst
          have hcb := hO2.1.cell p (.bool b) (by simp [hb])
          have k0 : (0 : Int) ≤ (p : Int) := by omega
          have k1 : (p : Int) < (n : Int) := by omega
          have HRF := fun nm W (h : Below w.heap.size w W) => rrefers_any y nm b1 b2 d1 d2 W (by omega) (hHF.out.below (fun r x hx => hx.below h) h)
          have HST0 := Lib.hid (show (!b && frK tk y p 0 (l.drop 0)) = (!b && F) by rw [List.drop_zero, hF])
          obtain ⟨q1, hq1⟩ : ∃ q1, y.cols.length = q1 := ⟨_, rfl⟩
          obtain ⟨q2, hq2⟩ : ∃ q2, y.frn.length = q2 := ⟨_, rfl⟩
          obtain ⟨yn, hyn⟩ : ∃ yn, y.name = yn := ⟨_, rfl⟩
          obtain ⟨yk, hyk⟩ : ∃ yk, y.key = yk := ⟨_, rfl⟩
          rw [hq1] at z1 HRF
          rw [hq2] at z3 HRF
          rw [hyn] at z0 HRF
          rw [hyk] at z2 HRF
          clear hc ht hcs hfs hst hJ hF hb HJ hq1 hq2 hyn hyk
          go_upto_region 13 with fail
          go_loopw [10, 11] (fun fv kv wr3 => ∃ (q : Nat) (f : Bool), q ≤ n ∧ fv = .bool f ∧ kv = .int .i64 q ∧ Hid ((f && frK tk y p q (l.drop q)) = (!b && F)) ∧ OdI w TB tk out (.slice va m vc) wr3) (fun _ kv _ => n - (intOf kv).toNat)
          case atStart => exact ⟨0, !b, Nat.zero_le _, rfl, rfl, HST0, hO2⟩
          case round =>
            obtain ⟨q, f, hq, rfl, rfl, HK, hO3⟩ := hrel
            obtain ⟨wz, rfl⟩ : ∃ wz, wz = wr := ⟨_, rfl⟩
            by_cases hlt3 : q < n
            · obtain ⟨z, ht2⟩ : ∃ t, l[q]? = some t := ⟨_, List.getElem?_eq_getElem (by rw [← HN.out]; exact hlt3)⟩
              obtain ⟨_, _, _, _, _, _, v0, _, _, _⟩ := HC.out q z ht2
              obtain ⟨t, htk⟩ : ∃ b, tk[q]? = some b := ⟨_, List.getElem?_eq_getElem (by rw [HTL.out]; exact hlt3)⟩
              have hst := frK_step tk y p l q z ht2
              rw [htk] at hst
              simp only [Option.getD_some] at hst
              have HST3 := Lib.hid hst
              have hLz := hO3.2.2.2
              have x0 := cell_regrown (Go.Proofs.Ytokbipfkpojflaa.Sl.cell_kept z0 hLz)
              have x1 := cell_regrown (Go.Proofs.Ytokbipfkpojflaa.Sl.cell_kept z1 hLz)
              have x2 := cell_regrown (Go.Proofs.Ytokbipfkpojflaa.Sl.cell_kept z2 hLz)
              have x3 := cell_regrown (Go.Proofs.Ytokbipfkpojflaa.Sl.cell_kept z3 hLz)
              have y0 := cell_regrown (Go.Proofs.Ytokbipfkpojflaa.Sl.cell_kept v0 hLz)
              have yt := cell_regrown (hO3.1.cell q (.bool t) (by simp [htk]))
              have j0 : (0 : Int) ≤ (q : Int) := by omega
              have j1 : (q : Int) < (n : Int) := by omega
              have HFX := fun d os => HRF z.name (Go.Sort.grow (redrawn wz d) os) (bstep hLz (below_regrown wz d os))
              generalize refS z.name y = rv at HFX HST3
              generalize z.name = zn at *
              have hO5 := fun d os => hO3.below (below_regrown wz d os)
              clear ht2 htk hst v0 HRF HST HST0 z0 z1 z2 z3
              by_cases hqp : q = p
              · have HK2 := Lib.hid (show (f && frK tk y p (q + 1) (l.drop (q + 1))) = (!b && F) by
                  rw [← HK.out, HST3.out, decide_eq_false (show ¬ q ≠ p by omega)]; simp)
                have hne : ((q : Int) != (p : Int)) = false := by subst hqp; simp
                clear HFX
                go_upto_region 15 with fail
                refine wp_region_quiet_below (by kernel_rfl) (by kernel_rfl) ?_
                repeat (go_big_quiet_step (fail))
                refine wpQuiet_nil ?_
                intro _ hw9
                obtain ⟨⟨dq, osq⟩, hw9⟩ := hw9
                subst hw9
                have hO6 := hO5 dq osq
                go_wp2
                go_roundw
                case rel => exact ⟨q + 1, f, by omega, rfl, by go_num, HK2, hO6⟩
                case measure => simp [intOf]; omega
              · have hne : ((q : Int) != (p : Int)) = true := by simpa using (show (q : Int) ≠ (p : Int) by omega)
                cases t
                · cases rv
                  · have HK2 := Lib.hid (show (f && frK tk y p (q + 1) (l.drop (q + 1))) = (!b && F) by
                      rw [← HK.out, HST3.out]; simp)
                    go_upto_region 15 with fail
                    refine wp_region_quiet_below (by kernel_rfl) (by kernel_rfl) ?_
                    repeat (go_big_quiet_step (first | (go_at_call 58; with_reducible exact Calls.regrown_of (HFX _ _))))
                    refine wpQuiet_nil ?_
                    intro _ hw9
                    obtain ⟨⟨dq, osq⟩, hw9⟩ := hw9
                    subst hw9
                    have hO6 := hO5 dq osq
                    go_wp2
                    go_roundw
                    case rel => exact ⟨q + 1, f, by omega, rfl, by go_num, HK2, hO6⟩
                    case measure => simp [intOf]; omega
                  · have HK2 := Lib.hid (show (false && frK tk y p (q + 1) (l.drop (q + 1))) = (!b && F) by
                      rw [← HK.out, HST3.out, decide_eq_true (show q ≠ p from hqp)]; simp)
                    go_upto_region 15 with fail
                    refine wp_region_quiet_below (by kernel_rfl) (by kernel_rfl) ?_
                    repeat (go_big_quiet_step (first | (go_at_call 58; with_reducible exact Calls.regrown_of (HFX _ _))))
                    refine wpQuiet_nil ?_
                    intro _ hw9
                    obtain ⟨⟨dq, osq⟩, hw9⟩ := hw9
                    subst hw9
                    have hO6 := hO5 dq osq
                    go_wp2
                    go_roundw
                    case rel => exact ⟨q + 1, false, by omega, rfl, by go_num, HK2, hO6⟩
                    case measure => simp [intOf]; omega
                · have HK2 := Lib.hid (show (f && frK tk y p (q + 1) (l.drop (q + 1))) = (!b && F) by
                    rw [← HK.out, HST3.out]; simp)
                  clear HFX
                  go_upto_region 15 with fail
                  refine wp_region_quiet_below (by kernel_rfl) (by kernel_rfl) ?_
                  repeat (go_big_quiet_step (fail))
                  refine wpQuiet_nil ?_
                  intro _ hw9
                  obtain ⟨⟨dq, osq⟩, hw9⟩ := hw9
                  subst hw9
                  have hO6 := hO5 dq osq
                  go_wp2
                  go_roundw
                  case rel => exact ⟨q + 1, f, by omega, rfl, by go_num, HK2, hO6⟩
                  case measure => simp [intOf]; omega
            · have hk3 := HK.out
              rw [List.drop_of_length_le (by rw [← HN.out]; omega), frK, Bool.and_true] at hk3
              have hst := HST.out
              have HK3 := Lib.hid hk3
              clear hk3 HK
              cases f
              · have HZ2 := Lib.hid (show idxQ tk l (p + 1) (l.drop (p + 1)) = Z by rw [if_neg (by rw [← HK3.out]; simp)] at hst; exact hst)
                clear hst
                go_wp2
                go_roundw
                case rel => exact ⟨p + 1, -1, by omega, rfl, by go_num, Lib.hid (.inl ⟨rfl, HZ2.out⟩), hO3⟩
                case measure => simp [intOf]; omega
              · have HZ2 := Lib.hid (show (p : Int) = Z by rw [if_pos HK3.out.symm] at hst; exact hst)
                clear hst
                go_wp2
                go_roundw
                case rel => exact ⟨p + 1, p, by omega, rfl, by go_num, Lib.hid (.inr ⟨by omega, HZ2.out⟩), hO3⟩
                case measure => simp [intOf]; omega
        · have HZ2 := Lib.hid (show fz = Z by
            rcases HJ.out with ⟨h1, h2⟩ | ⟨_, h2⟩
            · rw [List.drop_of_length_le (by rw [← HN.out]; omega), idxQ] at h2
              omega
            · exact h2)
          have hZc := HZ.out.symm.trans HCH.out
          rcases idxP_ge (rdyS out) l 0 with ⟨hz, _⟩ | ⟨hz, hz2, _, x', hx, hrx⟩
          · have HR := Lib.hid (show R = ([], 17) by
              have h := HI.out
              rw [← HM.out, show n - m = (n - m - 1) + 1 by omega, ordF, if_pos (by rw [hz]; decide)] at h
              exact h)
            obtain rfl : fz = -1 := by rw [HZ2.out, hZc, hz]
            have hL := hO2.2.2.2
            have hpn : ¬ p < n := fun h => hgo ⟨h, by omega⟩
            clear hz hZc HJ hgo
            go_wp2
            go_ret2
            exact ⟨_, by rw [HR.out]; rfl, by rw [HR.out]; exact ⟨Sl.mk0 .., Cap.mk (Nat.le_refl _)⟩, hL⟩
          · obtain ⟨k, hk⟩ : ∃ k : Nat, idxP (rdyS out) 0 l = k := ⟨(idxP (rdyS out) 0 l).toNat, by omega⟩
            rw [hk] at hx
            replace hx : l[k]? = some x' := by simpa using hx
            have hkn : k < n := by have := HN.out; have := (List.getElem?_eq_some_iff.1 hx).1; omega
            obtain rfl : fz = (k : Int) := by rw [HZ2.out, hZc, hk]
            have HR := Lib.hid (show R = match ordF l (n - (out ++ [x'.name]).length) (out ++ [x'.name]) with | some o => (o, 0) | none => ([], 17) by
              have h := HI.out
              have hm' := HM.out
              rw [show n - out.length = (n - (out ++ [x'.name]).length) + 1 by rw [List.length_append]; simp; omega, ordF, if_neg (by rw [hk]; omega), hk, Int.toNat_natCast, hx] at h
              exact h)
            have HT2 := Lib.hid (tkR_set HH.out HTR.out (by rw [HTL.out, HN.out]) k x' hx)
            obtain ⟨g, off, cp, e1, hc⟩ := ls_get (HN.out ▸ HS.out) (by rw [← HN.out]; omega)
            simp only [Value.slice.injEq] at e1
            obtain ⟨rfl, _, rfl⟩ := e1
            obtain ⟨_, _, _, _, _, _, z0, _⟩ := hc k x' hx
            obtain ⟨b, hb⟩ : ∃ b, tk[k]? = some b := ⟨_, List.getElem?_eq_getElem (by rw [HTL.out]; exact hkn)⟩
            have t0 := hO2.1.cell k (.bool b) (by simp [hb])
            have t1 := hO2.1.frozen k
            have hO6 := hO2.set k (by rw [HTL.out]; exact hkn)
            have y0 := Go.Proofs.Ytokbipfkpojflaa.Sl.cell_kept z0 hO6.2.2.2
            have k0 : (0 : Int) ≤ (k : Int) := by omega
            have k1 : (k : Int) < (n : Int) := by omega
            have kz : ¬ (k : Int) < 0 := by omega
            have HO6 := Lib.hid hO6
            generalize x'.name = xn at *
            clear hc z0 hx hb hZc hz hz2 hk HJ HZ2 hrx
            by_cases hpn : p < n
            all_goals
              go_upto_region 22 with fail
              generalize wq.setCell ⟨TB, k, none⟩ (.bool true) = W5 at *
              go_wp2_with (at_builtin; refine wp_od HO6.out rfl (.tmp 78) (.tmp 84) rfl rfl 9 rfl (by simp) xn (by have := HM.out; omega) ?_; intro v1 w1 hB1)
              obtain ⟨va2, vc2, e8, _⟩ := hB1.ss.form
              have HE8 := Lib.hid e8
              clear e8
              go_roundw
              case rel => exact ⟨tk.set k true, out ++ [xn], by rw [List.length_append, ← HM.out]; simp; omega, by rw [List.length_set, HTL.out], HT2.out, HR, hB1⟩
              case measure =>
                show n - lenV (some v1) < n - lenV (some (.slice va m vc))
                rw [HE8.out]
                simp only [lenV, List.length_append, List.length_cons, List.length_nil]
                have := HM.out
                omega
    · have HR := Lib.hid (show R = (out, 0) by
        have h := HI.out
        rw [← HM.out, show n - m = 0 by omega] at h
        exact h)
      have hss := hOd.ss
      have hL := hOd.2.2.2
      clear hm htl hTR ho
      go_wp2
      go_ret2
      exact ⟨_, by rw [HR.out]; rfl, by rw [HR.out]; exact hss, hL⟩
theorem rorder_any (l : List Sch) (s : Value) (w : World) (hs : LsAt w s l) : Calls Try.prog 19 #[s] w fun e w' => ∃ v, e = .returned (.tuple #[v, .int .i64 (ordS l).2]) ∧ Ss w' v (ordS l).1 ∧ Below w.heap.size w w' := by
  by_cases h : (allS l).2 = 0
  · obtain ⟨a, c, rfl, _⟩ := Nest.form hs
    exact rorder_go l a _ c w rfl hs h
  · have e1 : ordS l = ([], (allS l).2) := by unfold ordS; rw [if_neg h]
    rw [e1]
    refine (rorder_bad l s w hs h).mono ?_
    rintro e w' ⟨rfl, hb⟩
    exact ⟨_, rfl, ⟨Sl.mk0 .., Cap.mk (Nat.le_refl _)⟩, hb⟩
end Go.Proofs.Ytokbipfkpojflaa.Sc
namespace Go.Proofs.Ytokbipfkpojflaa.Sc
open Go Go.RowKit Go.ChangeShapes Go.WideShapes Go.Proofs.Ytokbipfkpojflaa.Sl Go.Lib
open Go.Proofs.Ytokbipfkpojflaa.Va (Cl flatC Cs)

theorem ordF_len (l : List Sch) : ∀ (n : Nat) (out o : List ByteArray), ordF l n out = some o → o.length = n + out.length
  | 0, out, o, h => by simp [ordF] at h; subst h; omega
  | n + 1, out, o, h => by
    unfold ordF at h
    split at h
    · cases h
    · have := ordF_len l n _ o h
      rw [List.length_append, List.length_singleton] at this
      omega
theorem ordS_len (l : List Sch) : (ordS l).1.length ≤ l.length := by
  unfold ordS
  by_cases h : (allS l).2 = 0
  · rw [if_pos h]
    cases ho : ordF l l.length [] with
    | none => simp
    | some o => have := ordF_len l _ _ o ho; simp at this; simp; omega
  · rw [if_neg h]; simp
set_option maxRecDepth 20000 in
set_option maxHeartbeats 2000000 in
theorem schemaOrders_walk (v : Value) (l : List Sch) (w : World) (hs : LsAt w v l) (hl : l.length ≤ 9223372036854775807) (hg : ∀ s ∈ l, szS s) : Calls Try.prog 5 #[v] w fun e w' => e = .returned (.bool true) ∧ Below w.heap.size w w' := by
  have HG := fun W (h : Below w.heap.size w W) => great_any l v W (hs.below h)
  have HA := fun W (h : Below w.heap.size w W) => order_any l v W (hs.below h)
  have HRA := fun W (h : Below w.heap.size w W) => rorder_any l v W (hs.below h)
  have hol := ordS_len l
  have HEQ := fun a b W (hl : (ordS l).1.length ≤ 1000000) ha hb => eqs_any (ordS l).1 a b W hl ha hb
  obtain ⟨a, c, rfl, _⟩ := Nest.form hs
  obtain ⟨n, hn⟩ : ∃ n, n = l.length := ⟨_, rfl⟩
  rw [← hn] at HG HA HRA hl hol ⊢
  cases hgl : grL l
  · have hn12 : n ≤ 12 := by
      unfold grL at hgl
      simp only [Bool.or_eq_false_iff, decide_eq_false_iff_not] at hgl
      omega
    rw [hgl] at HG
    replace HEQ := fun a b W ha hb => HEQ a b W (by omega) ha hb
    generalize (ordS l).1 = A1 at HA HRA HEQ
    generalize (ordS l).2 = A2 at HA HRA
    clear hs hn hgl hg hol
    go_enter Try.func5, Try.ntmps5
    go_wp2_with (first | (go_at_call 10; (with_reducible refine (awake_any _).mono ?_); rintro e w1 ⟨rfl, hb1⟩) | (go_at_call 11; (with_reducible refine (HG _ hb1).mono ?_); rintro e w2 ⟨rfl, hb2⟩; have hw2 := bstep hb1 hb2) | (go_at_call 18; (with_reducible refine (HA _ hw2).mono ?_); rintro e w3 ⟨o1, rfl, hS1, hb3⟩; have hw3 := bstep hw2 hb3) | (go_at_call 19; (with_reducible refine (HRA _ hw3).mono ?_); rintro e w4 ⟨o2, rfl, hS2, hb4⟩; have hw4 := bstep hw3 hb4; have hS14 := hS1.below hb4) | (go_at_call 20; (with_reducible refine (HEQ _ _ _ hS14 hS2).mono ?_); rintro e w5 ⟨rfl, hb5⟩))
    go_ret
    exact ⟨rfl, bstep hw4 hb5⟩
  · rw [hgl] at HG
    clear hs hgl hg hn hl HA HRA HEQ hol
    go_enter Try.func5, Try.ntmps5
    go_wp2_with (first | (go_at_call 10; (with_reducible refine (awake_any _).mono ?_); rintro e w1 ⟨rfl, hb1⟩) | (go_at_call 11; (with_reducible refine (HG _ hb1).mono ?_); rintro e w2 ⟨rfl, hb2⟩; have hw2 := bstep hb1 hb2))
    go_ret
    exact ⟨rfl, hw2⟩
end Go.Proofs.Ytokbipfkpojflaa.Sc
