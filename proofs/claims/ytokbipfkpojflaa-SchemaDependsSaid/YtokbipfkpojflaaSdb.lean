/-
  SchemaDepends: its closures; the plain law (layer 34).
-/
import Derived.Test.YtokbipfkpojflaaSda
import Derived.Test.YtokbipfkpojflaaScO
set_option linter.unusedSimpArgs false
set_option linter.unusedVariables false
namespace Go.Proofs.Ytokbipfkpojflaa.Sc
open Go Go.RowKit Go.ChangeShapes Go.WideShapes Go.Proofs.Ytokbipfkpojflaa.Sl Go.Lib
open Go.Proofs.Ytokbipfkpojflaa.Va (Cl flatC Cs)

/-- A foreign key that refers to another table of those that are left. -/
def stuckF (lf : List Sch) (name : ByteArray) (f : Fr) : Bool := !decide (f.tab = name) && lf.any fun t => decide (t.name = f.tab)
def staysS (lf : List Sch) (s : Sch) : Bool := s.frn.any (stuckF lf s.name)
theorem enter_dep (args : Array Value) (w : World) : (callFunc 26 args).run Try.prog w = .ok (.enter 26 args) w := by simp [go_sem, Try.func26]
theorem enter_dep1 (args : Array Value) (w : World) : (callFunc 28 args).run Try.prog w = .ok (.enter 28 args) w := by simp [go_sem, Try.func28]
theorem depc_any (sn tab : ByteArray) (sc : Value) (key : Int) (sf : Value) (B : Nat) (w : World) (h1 : sc.oneCell' = true) (h2 : sf.oneCell' = true) (hc : w.cell? ⟨B, 1, none⟩ = some (.string tab)) :
    Calls Try.prog 28 #[agS sn sc key sf, .pointer (some ⟨B, 0, none⟩)] w fun e w' => e = .returned (.bool (decide (sn = tab))) ∧ Below w.heap.size w w' := by
  have hB := block_of_cell hc
  have HZ : Hid ((sn.toList == tab.toList) = decide (sn = tab)) := Lib.hid (by rw [Bool.eq_iff_iff, Lib.bytes_beq_iff, decide_eq_true_eq])
  go_enter Try.func28, Try.ntmps28
  go_wp2
  go_ret
  exact ⟨by rw [← HZ.out]; rfl, by go_grown⟩
/-- What the closures read. -/
def DepI (SB LB : Nat) (name : ByteArray) (a : Option Addr) (n c : Nat) (lf : List Sch) (W : World) : Prop := W.cell? ⟨SB, 0, none⟩ = some (.string name) ∧ W.cell? ⟨LB, 0, none⟩ = some (.slice a n c) ∧ LsAt W (.slice a n c) lf
theorem DepI.step {SB LB : Nat} {name : ByteArray} {a : Option Addr} {n c : Nat} {lf : List Sch} {W W' : World} (h : DepI SB LB name a n c lf W) (hb : Below W.heap.size W W') : DepI SB LB name a n c lf W' := ⟨Go.Proofs.Ytokbipfkpojflaa.Sl.cell_kept h.1 hb, Go.Proofs.Ytokbipfkpojflaa.Sl.cell_kept h.2.1 hb, h.2.2.below hb⟩
set_option maxRecDepth 20000 in
theorem depf_any (lf : List Sch) (hl : lf.length ≤ 1000000) (SB LB : Nat) (name tab : ByteArray) (a : Option Addr) (n c : Nat) (a1 : Option Addr) (n1 c1 : Nat) (w : World) (hI : DepI SB LB name a n c lf w) :
    Calls Try.prog 26 #[.agg #[.slice a1 n1 c1, .string tab], .pointer (some ⟨SB, 0, none⟩), .pointer (some ⟨LB, 0, none⟩)] w fun e w' => e = .returned (.bool (!decide (tab = name) && lf.any fun t => decide (t.name = tab))) ∧ Below w.heap.size w w' := by
  obtain ⟨hS, hL, hs⟩ := hI
  have hSb := block_of_cell hS
  have hLb := block_of_cell hL
  have HA := fun W (h : Below w.heap.size w W) (hF : W.cell? ⟨w.heap.size, 1, none⟩ = some (.string tab)) => has_sch1 28 enter_dep1 (.pointer (some ⟨w.heap.size, 0, none⟩)) (fun t => decide (t.name = tab)) (fun W => W.cell? ⟨w.heap.size, 1, none⟩ = some (.string tab))
    (fun W W' hW hb => Go.Proofs.Ytokbipfkpojflaa.Sl.cell_kept hW hb) lf (fun W s a1 a2 c1 c2 _ hW _ _ => depc_any s.name tab _ s.key _ w.heap.size W rfl rfl hW) hl _ W (hs.below h) hF
  by_cases h : tab = name
  · subst h
    clear HA hs
    rw [decide_eq_true rfl]
    go_enter Try.func26, Try.ntmps26
    go_wp2
    go_ret
    exact ⟨rfl, by go_grown⟩
  · have h4 : (tab.toList == name.toList) = false := (Lib.bytes_beq_false_iff tab name).2 h
    rw [decide_eq_false h]
    generalize (lf.any fun t => decide (t.name = tab)) = z at HA ⊢
    clear hs h
    go_enter Try.func26, Try.ntmps26
    go_wp2_with (go_at_call 27; with_reducible refine (HA _ (by go_grown) (by simp)).mono ?_; rintro e w1 ⟨rfl, hb⟩; have hw1 : Below w.heap.size w w1 := bstep (by go_grown) hb)
    go_ret
    exact ⟨rfl, hw1⟩
theorem stays_any (lf : List Sch) (hl : lf.length ≤ 1000000) (SB LB : Nat) (s : Sch) (a : Option Addr) (n c : Nat) (a2 : Option Addr) (c2 : Nat) (w : World) (hfl : s.frn.length ≤ 1000000) (hf : FsAt w (.slice a2 s.frn.length c2) s.frn) (hI : DepI SB LB s.name a n c lf w) :
    Calls Try.prog 25 #[.slice a2 s.frn.length c2, .func (.func 26) #[] #[.pointer (some ⟨SB, 0, none⟩), .pointer (some ⟨LB, 0, none⟩)]] w fun e w' => e = .returned (.bool (staysS lf s)) ∧ Below w.heap.size w w' :=
  has_frn2 26 enter_dep (.pointer (some ⟨SB, 0, none⟩)) (.pointer (some ⟨LB, 0, none⟩)) (stuckF lf s.name) (DepI SB LB s.name a n c lf) (fun W W' hW hb => hW.step hb) s.frn (fun W f a1 c1 _ hW _ => depf_any lf hl SB LB s.name f.tab a n c a1 _ c1 W hW) hfl _ w hf hI

-- on Order's plain law (as in the text of SchemaOrders)
theorem fndS_no (name : ByteArray) : ∀ (l : List Sch) (k : Nat), fndS name k l < 0 → ∀ s ∈ l, s.name ≠ name
  | [], _, _ => by simp
  | c :: l, k, h => by
    unfold fndS at h
    by_cases hc : c.name = name
    · rw [if_pos hc] at h; omega
    · rw [if_neg hc] at h
      intro s hs
      rcases List.mem_cons.1 hs with rfl | hs
      · exact hc
      · exact fndS_no name l (k + 1) h s hs
theorem fndS_yes (name : ByteArray) : ∀ (l : List Sch) (k : Nat), ¬ fndS name k l < 0 → ∃ (q : Nat) (z : Sch), l[q]? = some z ∧ z.name = name
  | [], _, h => by simp [fndS] at h
  | c :: l, k, h => by
    unfold fndS at h
    by_cases hc : c.name = name
    · exact ⟨0, c, rfl, hc⟩
    · rw [if_neg hc] at h
      obtain ⟨q, z, h1, h2⟩ := fndS_yes name l (k + 1) h
      exact ⟨q + 1, z, h1, h2⟩
theorem fltA_dist (all : List Sch) : ∀ (l : List Sch) (i : Nat), fltA all i l = none → ∀ (q : Nat) (s : Sch), l[q]? = some s → fndS s.name 0 (all.take (i + q)) < 0
  | [], i, _ => by simp
  | s :: l, i, h => by
    unfold fltA at h
    by_cases h1 : vldS s = false
    · rw [if_pos h1] at h; cases h
    · rw [if_neg h1] at h
      by_cases h2 : 0 ≤ fndS s.name 0 (all.take i)
      · rw [if_pos h2] at h; cases h
      · rw [if_neg h2] at h
        intro q x hx
        cases q with
        | zero => simp at hx; subst hx; simpa using h2
        | succ q => rw [show i + (q + 1) = i + 1 + q by omega]; exact fltA_dist all l (i + 1) h q x (by simpa using hx)
theorem fltF_all (all : List Sch) (s : Sch) : ∀ (l : List Fr), fltF all s l = none → ∀ f ∈ l, ¬ fndS f.tab 0 all < 0
  | [], _ => by simp
  | f :: l, h => by
    unfold fltF at h
    by_cases h1 : fndS f.tab 0 all < 0
    · rw [if_pos h1] at h; cases h
    · rw [if_neg h1] at h
      split at h
      · cases h
      · intro x hx
        rcases List.mem_cons.1 hx with rfl | hx
        · exact h1
        · exact fltF_all all s l h x hx
theorem fltG_all (all : List Sch) : ∀ (l : List Sch), fltG all l = none → ∀ s ∈ l, fltF all s s.frn = none
  | [], _ => by simp
  | s :: l, h => by
    unfold fltG at h
    cases hf : fltF all s s.frn with
    | some x => rw [hf] at h; cases h
    | none =>
      rw [hf] at h
      intro x hx
      rcases List.mem_cons.1 hx with rfl | hx
      · exact hf
      · exact fltG_all all l h x hx
theorem fltF_code (all : List Sch) (s : Sch) : ∀ (l : List Fr) x, fltF all s l = some x → ¬ x.2 = 0
  | [], x, h => by simp [fltF] at h
  | f :: l, x, h => by
    unfold fltF at h
    by_cases h1 : fndS f.tab 0 all < 0
    · rw [if_pos h1] at h; simp only [Option.some.injEq] at h; subst h; simp
    · rw [if_neg h1] at h
      split at h
      · simp only [Option.some.injEq] at h; subst h; simp
      · exact fltF_code all s l x h
theorem fltG_code (all : List Sch) : ∀ (l : List Sch) x, fltG all l = some x → ¬ x.2 = 0
  | [], x, h => by simp [fltG] at h
  | s :: l, x, h => by
    unfold fltG at h
    cases hf : fltF all s s.frn with
    | some y => rw [hf] at h; simp only [Option.some.injEq] at h; subst h; exact fltF_code all s _ _ hf
    | none => rw [hf] at h; exact fltG_code all l x h
theorem allS_more {l : List Sch} (h : (allS l).2 = 0) : (∀ (i k : Nat) (x y : Sch), l[i]? = some x → l[k]? = some y → x.name = y.name → i = k) ∧ ∀ s ∈ l, ∀ f ∈ s.frn, ∃ (q : Nat) (z : Sch), l[q]? = some z ∧ z.name = f.tab := by
  unfold allS at h
  by_cases h8 : 8 < l.length
  · rw [if_pos h8] at h; simp at h
  · rw [if_neg h8] at h
    cases ha : fltA l 0 l with
    | some x =>
      rw [ha] at h
      rcases fltA_code l l 0 with ⟨y, hy, h0⟩ | ⟨hy, _⟩
      · rw [ha] at hy; cases hy; exact absurd h h0
      · rw [ha] at hy; cases hy
    | none =>
      rw [ha] at h
      cases hg : fltG l l with
      | some x => rw [hg] at h; exact absurd h (fltG_code l l x hg)
      | none =>
        have hd : ∀ (i k : Nat) (x y : Sch), i < k → l[i]? = some x → l[k]? = some y → x.name ≠ y.name := by
          intro i k x y hik hx hy
          have h1 := fltA_dist l l 0 ha k y hy
          rw [Nat.zero_add] at h1
          refine fndS_no y.name _ 0 h1 x ?_
          refine List.mem_of_getElem? (i := i) ?_
          rw [List.getElem?_take, if_pos hik]; exact hx
        refine ⟨fun i k x y hx hy e => ?_, fun s hs f hf => fndS_yes f.tab l 0 (fltF_all l s s.frn (fltG_all l l hg s hs) f hf)⟩
        rcases Nat.lt_trichotomy i k with h | h | h
        · exact absurd e (hd i k x y h hx hy)
        · exact h
        · exact absurd e.symm (hd k i y x h hy hx)
theorem ordF_len (l : List Sch) : ∀ (n : Nat) (out o : List ByteArray), ordF l n out = some o → o.length = n + out.length
  | 0, out, o, h => by simp [ordF] at h; subst h; omega
  | n + 1, out, o, h => by
    unfold ordF at h
    split at h
    · cases h
    · have := ordF_len l n _ o h
      rw [List.length_append, List.length_singleton] at this
      omega
theorem pigeon {α : Type} [DecidableEq α] : ∀ (a b : List α), a.Nodup → (∀ x ∈ a, x ∈ b) → a.length ≤ b.length
  | [], b, _, _ => Nat.zero_le _
  | x :: a, b, hn, hs => by
    obtain ⟨h1, h2⟩ := List.nodup_cons.1 hn
    have hx := hs x (by simp)
    have := pigeon a (b.erase x) h2 (fun y hy => (List.mem_erase_of_ne (fun e => h1 (by rw [← e]; exact hy))).2 (hs y (by simp [hy])))
    rw [List.length_erase_of_mem hx] at this
    have hb : 0 < b.length := List.length_pos_of_mem hx
    rw [List.length_cons]
    omega
theorem ordF_app (l : List Sch) : ∀ (n : Nat) (out o : List ByteArray), ordF l n out = some o → ∃ t, o = out ++ t
  | 0, out, o, h => ⟨[], by simp [ordF] at h; simp [h]⟩
  | n + 1, out, o, h => by
    unfold ordF at h
    split at h
    · cases h
    · obtain ⟨t, ht⟩ := ordF_app l n _ o h
      exact ⟨_ :: t, by rw [ht, List.append_assoc]; rfl⟩
theorem ordF_ok (l : List Sch) : ∀ (n : Nat) (out o : List ByteArray), ordF l n out = some o → ∀ (i : Nat) (name : ByteArray), out.length ≤ i → o[i]? = some name → ∃ (k : Nat) (s : Sch), l[k]? = some s ∧ s.name = name ∧ rdyS (o.take i) s = true
  | 0, out, o, h, i, name, hi, ho => by
    simp [ordF] at h
    subst h
    rw [List.getElem?_eq_none hi] at ho
    cases ho
  | n + 1, out, o, h, i, name, hi, ho => by
    have h0 := h
    unfold ordF at h
    split at h
    · cases h
    · rename_i hz
      rcases idxP_ge (rdyS out) l 0 with ⟨h1, _⟩ | ⟨h1, h2, _, x, h4, h5⟩
      · rw [h1] at hz; exact absurd (by decide) hz
      · have hx : l[(idxP (rdyS out) 0 l).toNat]? = some x := by simpa using h4
        rw [hx] at h
        by_cases hio : i = out.length
        · obtain ⟨t, ht⟩ := ordF_app l n _ o h
          have e : o = out ++ (x.name :: t) := by rw [ht, List.append_assoc]; rfl
          rw [e, hio, List.getElem?_append_right (Nat.le_refl _), Nat.sub_self] at ho
          refine ⟨_, x, hx, by simpa using ho, ?_⟩
          rw [e, hio, List.take_left']
          · exact h5
          · rfl
        · exact ordF_ok l n _ o h i name (by rw [List.length_append]; simp; omega) ho
theorem ordF_none (l : List Sch) : ∀ (n : Nat) (out : List ByteArray), ordF l n out = none → ∃ out' : List ByteArray, out'.length < out.length + n ∧ idxP (rdyS out') 0 l < 0
  | 0, out, h => by simp [ordF] at h
  | n + 1, out, h => by
    unfold ordF at h
    split at h
    · rename_i hz
      exact ⟨out, by omega, hz⟩
    · obtain ⟨o, h1, h2⟩ := ordF_none l n _ h
      exact ⟨o, by rw [List.length_append] at h1; simp at h1; omega, h2⟩
/-- Schemas that refer to one another. -/
def Circ (U : List Sch) : Prop := U ≠ [] ∧ ∀ u ∈ U, ∃ f ∈ u.frn, f.tab ≠ u.name ∧ ∃ z ∈ U, z.name = f.tab
theorem circ_of (l : List Sch) (h : (allS l).2 = 0) (hn : ordF l l.length [] = none) : ∃ U : List Sch, Circ U ∧ ∀ u ∈ U, u ∈ l := by
  obtain ⟨hd, hr⟩ := allS_more h
  obtain ⟨out, h1, h2⟩ := ordF_none l _ _ hn
  simp at h1
  have hno : ∀ s ∈ l, rdyS out s = false := by
    rcases idxP_ge (rdyS out) l 0 with ⟨_, h4⟩ | ⟨h3, _⟩
    · intro s hs
      have := List.any_eq_false.1 h4 s hs
      simpa using this
    · omega
  refine ⟨l.filter fun s => !Lib.containsS out s.name, ⟨fun e => ?_, fun u hu => ?_⟩, fun u hu => (List.mem_filter.1 hu).1⟩
  · have hall : ∀ s ∈ l, s.name ∈ out := fun s hs => by
      have := List.filter_eq_nil_iff.1 e s hs
      simp at this
      exact (Lib.containsS_iff _ _).1 this
    have hnd : (l.map (·.name)).Nodup := by
      refine List.pairwise_iff_getElem.2 fun i j hi hj hij e2 => ?_
      rw [List.length_map] at hi hj
      rw [List.getElem_map, List.getElem_map] at e2
      have := hd i j _ _ (List.getElem?_eq_getElem hi) (List.getElem?_eq_getElem hj) e2
      omega
    have := pigeon (l.map (·.name)) out hnd (fun x hx => by
      obtain ⟨s, hs, rfl⟩ := List.mem_map.1 hx
      exact hall s hs)
    rw [List.length_map] at this
    omega
  · obtain ⟨hu1, hu2⟩ := List.mem_filter.1 hu
    have h3 := hno u hu1
    unfold rdyS at h3
    rw [hu2, Bool.true_and] at h3
    have h4 : (u.frn.any (waitF u.name out)) = true := by simpa using h3
    obtain ⟨f, hf1, hf2⟩ := List.any_eq_true.1 h4
    unfold waitF at hf2
    simp only [Bool.and_eq_true, Bool.not_eq_true', decide_eq_false_iff_not] at hf2
    obtain ⟨q, z, hz1, hz2⟩ := hr u hu1 f hf1
    refine ⟨f, hf1, hf2.1, z, List.mem_filter.2 ⟨List.mem_of_getElem? hz1, by rw [hz2]; simp [hf2.2]⟩, hz2⟩
theorem circ_stays {U lf : List Sch} (h : Circ U) (hs : ∀ u ∈ U, u ∈ lf) : ∀ u ∈ U, staysS lf u = true := by
  intro u hu
  obtain ⟨f, h1, h2, z, h3, h4⟩ := h.2 u hu
  unfold staysS stuckF
  refine List.any_eq_true.2 ⟨f, h1, ?_⟩
  rw [decide_eq_false h2]
  simp only [Bool.not_false, Bool.true_and]
  exact List.any_eq_true.2 ⟨z, hs z h3, by simp [h4]⟩
theorem circ_erase {U lf : List Sch} (h : Circ U) (hs : ∀ u ∈ U, u ∈ lf) (i : Nat) (x : Sch) (hx : lf[i]? = some x) (hst : staysS lf x = false) : ∀ u ∈ U, u ∈ lf.eraseIdx i := by
  intro u hu
  obtain ⟨j, hj⟩ := List.getElem?_of_mem (hs u hu)
  refine List.mem_eraseIdx_iff_getElem?.2 ⟨j, fun e => ?_, hj⟩
  rw [e, hx] at hj
  cases hj
  rw [circ_stays h hs x hu] at hst
  cases hst
theorem circ_pos {U lf : List Sch} (h : Circ U) (hs : ∀ u ∈ U, u ∈ lf) : 0 < lf.length := by
  cases hU : U with
  | nil => exact absurd hU h.1
  | cons u U' => exact List.length_pos_of_mem (hs u (by rw [hU]; simp))
/-- The order puts each one behind those to which it refers. -/
theorem order_ok (l : List Sch) (h : (allS l).2 = 0) (o : List ByteArray) (ho : ordF l l.length [] = some o) (i : Nat) (name : ByteArray) (hi : o[i]? = some name) :
    ∃ (k : Nat) (s : Sch), l[k]? = some s ∧ fndS name 0 l = k ∧ s.name = name ∧ Lib.containsS (o.take i) name = false ∧ ∀ f ∈ s.frn, f.tab = name ∨ Lib.containsS (o.take i) f.tab = true := by
  obtain ⟨hd, _⟩ := allS_more h
  obtain ⟨k, s, h1, h2, h3⟩ := ordF_ok l _ _ o ho i name (Nat.zero_le _) hi
  unfold rdyS at h3
  simp only [Bool.and_eq_true, Bool.not_eq_true'] at h3
  refine ⟨k, s, h1, ?_, h2, by rw [← h2]; exact h3.1, fun f hf => ?_⟩
  · rcases fndS_ge name l 0 with h4 | ⟨h4, h5⟩
    · exact absurd h2 (fndS_no name l 0 (by omega) s (List.mem_of_getElem? h1))
    · obtain ⟨z, hz, hzn⟩ : ∃ z, l[(fndS name 0 l).toNat]? = some z ∧ z.name = name := by
        rw [← fndS_is] at h4 h5 ⊢
        rcases idxP_ge (fun s : Sch => decide (s.name = name)) l 0 with ⟨h6, _⟩ | ⟨_, _, _, x, h8, h9⟩
        · rw [h6] at h4; exact absurd h4 (by decide)
        · exact ⟨x, by simpa using h8, by simpa using h9⟩
      have := hd _ _ _ _ hz h1 (by rw [hzn, h2])
      omega
  · have h6 := List.any_eq_false.1 h3.2 f hf
    unfold waitF at h6
    by_cases hq : f.tab = name
    · exact .inl hq
    · right
      rw [h2, decide_eq_false hq] at h6
      simpa using h6
end Go.Proofs.Ytokbipfkpojflaa.Sc
