/-
  The walks of names, distinct and Column (layer 34).
-/
import Derived.Test.YtokbipfkpojflaaDoorScP
import Derived.Test.YtokbipfkpojflaaDoorShelf
set_option linter.unusedSimpArgs false
set_option linter.unusedVariables false
namespace Go.Proofs.YtokbipfkpojflaaDoor.Sc
open Go Go.RowKit Go.ChangeShapes Go.WideShapes Go.Proofs.YtokbipfkpojflaaDoor.Sl Go.Proofs.YtokbipfkpojflaaDoor.Va Go.Lib

theorem infoS : (Tryd.prog.info? 9).map (fun i => (i.zero, i.size, i.bytes)) = some (some (.string ⟨#[]⟩), 1, 16) := by kernel_rfl
theorem own_shape {B : Nat} {w : World} {e : TypeId} {size : Nat} {v : Value} {n : Nat} {xs : List Value} (h : w.ownsRow B e size v n xs) : v = .slice none 0 0 ∨ ∃ g cap, v = .slice (some ⟨g, 0, none⟩) n cap ∧ n ≤ cap := by
  obtain ⟨_, ⟨rfl, _⟩ | ⟨g, cap, cur, rfl, _, _, hn, _⟩⟩ := h
  · exact .inl rfl
  · exact .inr ⟨g, cap, rfl, hn⟩
/-- The slice v is the call's own and holds the texts l. -/
def Tf (W0 w : World) (v : Value) (l : List ByteArray) : Prop := w.ownsRow W0.heap.size 9 1 v l.length (l.map .string) ∧ Below W0.heap.size W0 w
theorem Tf.ss {W0 w : World} {v : Value} {l : List ByteArray} (h : Tf W0 w v l) : Ss w v l := by
  refine ⟨Sl.of_owns h.1, ?_⟩
  rcases own_shape h.1 with rfl | ⟨g, cap, rfl, hc⟩
  · exact Cap.mk (Nat.le_refl _)
  · exact Cap.mk hc
theorem Tf.alloc {W0 w : World} {v : Value} {b : List ByteArray} (h : Tf W0 w v b) (o : Obj) : Tf W0 (w.alloc o) v b := ⟨h.1.alloc o, h.2.alloc h.2.size o⟩
theorem Tf.nil (w : World) : Tf w w (.slice none 0 0) [] := ⟨World.ownsRow_nil _ _ _ _, Below.refl _ _⟩
theorem wp_str {ops : Array Oper} {rest : List Oper} {o : Oper} {a : Act} {Q : Exit → Act → World → Prop} {W0 w : World} {v : Value} {l : List ByteArray} (hB : Tf W0 w v l) (hgd : o.guard = none) (s x : Operand)
    (ho : o.op = .call { callee := .builtin .append, args := #[s, x], argTypes := #[37, 37] }) (hs : a.eval s = v) {H : Nat} (te : TypeId)
    (hx : a.eval x = .slice (some ⟨H, 0, none⟩) 1 1) (hH : w.heap.size = H) (u : ByteArray) (hlen : l.length ≤ 1000000)
    (h : ∀ v' w', Tf W0 w' v' (l ++ [u]) → wpList Tryd.prog ops Q rest (a.put o.dst v') w') : wpList Tryd.prog ops Q (o :: rest) a (w.alloc (.cells #[.string u] te)) := by
  obtain ⟨i0, hi, hz0, hz1, hz2⟩ := info_parts infoS
  subst hH
  have ho1 := hB.1.alloc (.cells #[.string u] te)
  refine wpList_append_lies _ hgd s x _ ho W0.heap.size _ i0 _ 1 16 Tryd.underlying37 hi hz0 hz1 hz2 rfl (by decide) v l.length (l.map .string) hs ho1 ⟨w.heap.size, 0, none⟩ 1 1 [.string u] hx rfl (cells_new w [.string u] te) (by intro x hx; simp at hx; subst hx; rfl) (by omega) (by unfold maxLen; omega) (by omega) (by have := hB.2.size; simp; omega) (w.heap.size + 1) (by simp) ?_
  intro g cap w' h2 h3 _ _
  refine h _ w' ⟨?_, (hB.2.alloc hB.2.size _).grown h3 (by have := hB.2.size; simp; omega) (fun k hk => (ho1.lt k hk).1)⟩
  rw [List.map_append, List.length_append]
  exact h2
theorem map_take {α β : Type} (f : α → β) (l : List α) (k : Nat) (x : α) (h : l[k]? = some x) : (l.take (k + 1)).map f = (l.take k).map f ++ [f x] := by
  rw [List.take_add_one, h, List.map_append]; rfl
set_option maxRecDepth 20000 in
theorem names_any (l : List Cl) (s : Value) (w : World) (hl : l.length ≤ 1000000) (hs : Cs w s l) : Calls Tryd.prog 24 #[s] w fun e w' => ∃ v, e = .returned v ∧ Tf w w' v (l.map (·.1)) := by
  have HV := Lib.hid hs
  obtain ⟨ad, cap, rfl⟩ := hs.form
  obtain ⟨n, hn⟩ : ∃ n, n = l.length := ⟨_, rfl⟩
  have HN := Lib.hid hn
  rw [← hn] at hl ⊢
  clear hs hn
  go_enter Tryd.func24, Tryd.ntmps24
  go_wp2
  go_loopw [3, 8] (fun v i wr => ∃ k : Nat, k ≤ n ∧ i = .int .i64 k ∧ Tf w wr v ((l.take k).map (·.1))) (fun _ i _ => n - (intOf i).toNat)
  case atStart => exact ⟨0, Nat.zero_le _, rfl, Tf.nil w⟩
  case round =>
    obtain ⟨k, hk, rfl, hB⟩ := hrel
    by_cases hlt : k < n
    · obtain ⟨g, off, cp, e1, hc⟩ := HV.out.open (by rw [← HN.out]; omega)
      simp only [Value.slice.injEq] at e1
      obtain ⟨rfl, _, rfl⟩ := e1
      obtain ⟨⟨a, b⟩, ht⟩ : ∃ t, l[k]? = some t := ⟨_, List.getElem?_eq_getElem (by rw [← HN.out]; exact hlt)⟩
      obtain ⟨c0, c1⟩ := cs_get hc ht
      have d0 := cell_kept c0 hB.2
      have d1 := cell_kept c1 hB.2
      have k0 : (0 : Int) ≤ (k : Int) := by omega
      have k1 : (k : Int) < (n : Int) := by omega
      have HT := Lib.hid (map_take (·.1) l k _ ht)
      have hlen : ((l.take k).map (·.1)).length ≤ 1000000 := by rw [List.length_map, List.length_take]; omega
      clear c0 c1 hc ht
      go_wp2_with (at_builtin; refine wp_str (hB.alloc (.cells #[.string a, .int .i64 b] 53)) rfl (.tmp 12) (.tmp 15) rfl rfl 9 rfl (by simp) a hlen ?_; intro v1 w1 hB1)
      go_roundw
      case rel => exact ⟨k + 1, by omega, by go_num, by rw [HT.out]; exact hB1⟩
      case measure => simp [intOf]; omega
    · have e1 : l.take k = l := List.take_of_length_le (by rw [← HN.out]; omega)
      rw [e1] at hB
      go_wp2
      go_ret
      exact ⟨_, rfl, hB⟩
theorem ss_key (l : List ByteArray) (j : Nat) (hj : j < l.length) : (l.map Value.string)[j]? = some (.string (l.getD j ByteArray.empty)) := by
  rw [List.getElem?_map, List.getD_eq_getElem?_getD, List.getElem?_eq_getElem hj]; rfl
theorem index_any (l : List ByteArray) (s : Value) (x : ByteArray) (w : World) (hl : l.length ≤ 1000000) (hs : Ss w s l) : Calls Tryd.prog 31 #[s, .string x] w fun e w' => e = .returned (.int .i64 (Lib.idxOfS l x)) ∧ w = w' := by
  by_cases h0 : l.length = 0
  · obtain ⟨ad, cap, rfl, _⟩ := hs.form
    obtain rfl := List.length_eq_zero_iff.1 h0
    exact (Tryd.slices_Index_string_empty ad cap x w).mono fun _ _ h => ⟨h.1, h.2.symm⟩
  · obtain ⟨g, off, cap, rfl, hc⟩ := hs.1.open h0
    have := Tryd.slices_Index_string g off l.length cap l x w (Nat.le_refl _) (by omega) (fun j hj => hc j _ (ss_key l j hj))
    rw [List.take_length] at this
    exact this.mono fun _ _ h => ⟨h.1, h.2.symm⟩
/-- The texts ahead of place k of a list that can be read. -/
theorem contains_take (l : List ByteArray) (x : ByteArray) (k : Nat) (a : Option Addr) (c c2 : Nat) (w : World) (hk : k ≤ l.length) (hl : l.length ≤ 1000000) (hs : Ss w (.slice a l.length c) l) : Calls Tryd.prog 43 #[.slice a k c2, .string x] w fun e w' => e = .returned (.bool (Lib.containsS (l.take k) x)) ∧ w = w' := by
  by_cases h0 : k = 0
  · subst h0
    exact (Tryd.slices_Contains_string_empty a c2 x w).mono fun _ _ h => ⟨h.1, h.2.symm⟩
  · obtain ⟨g, off, cap, e1, hc⟩ := hs.1.open (by omega)
    simp only [Value.slice.injEq] at e1
    obtain ⟨rfl, _, rfl⟩ := e1
    exact (Tryd.slices_Contains_string g off k c2 l x w hk (by omega) (fun j hj => hc j _ (ss_key l j hj))).mono fun _ _ h => ⟨h.1, h.2.symm⟩
theorem contains_any (l : List ByteArray) (s : Value) (x : ByteArray) (w : World) (hl : l.length ≤ 1000000) (hs : Ss w s l) : Calls Tryd.prog 43 #[s, .string x] w fun e w' => e = .returned (.bool (Lib.containsS l x)) ∧ w = w' := by
  obtain ⟨ad, cap, rfl, _⟩ := hs.form
  have := contains_take l x l.length ad cap cap w (Nat.le_refl _) hl hs
  rwa [List.take_length] at this
theorem name_is (s : ByteArray) (w : World) : Calls Tryd.prog 22 #[.string s] w fun e w' => e = .returned (.bool (nmB s)) ∧ w = w' := Lx.name_any s w
set_option maxRecDepth 20000 in
theorem distinct_any (l : List ByteArray) (s : Value) (w : World) (hl : l.length ≤ 1000000) (hs : Ss w s l) : Calls Tryd.prog 23 #[s] w fun e w' => e = .returned (.bool (distL [] l)) ∧ w = w' := by
  have HV := Lib.hid hs
  obtain ⟨ad, cap, rfl, hcap⟩ := hs.form
  obtain ⟨n, hn⟩ : ∃ n, n = l.length := ⟨_, rfl⟩
  obtain ⟨Z, hZ⟩ : ∃ Z, distL [] l = Z := ⟨_, rfl⟩
  have HZ := Lib.hid hZ
  have HN := Lib.hid hn
  have HL := Lib.hid hl
  have HCT := fun x k c2 hk hl => contains_take l x k ad cap c2 w hk hl hs
  rw [hZ]
  rw [← hn] at hl hcap HCT ⊢
  clear hs hn hZ
  go_enter Tryd.func23, Tryd.ntmps23
  go_wp2
  go_loop [7] (fun i => ∃ k : Nat, k ≤ n ∧ i = .int .i64 k ∧ Hid (distL (l.take k) (l.drop k) = Z)) (fun i => n - (intOf i).toNat)
  case atStart => exact ⟨0, Nat.zero_le _, rfl, Lib.hid (by simpa using HZ.out)⟩
  case round =>
    obtain ⟨k, hk, rfl, HI⟩ := hrel
    by_cases hlt : k < n
    · obtain ⟨g, off, cp, e1, hc⟩ := HV.out.1.open (by rw [← HN.out]; omega)
      simp only [Value.slice.injEq] at e1
      obtain ⟨rfl, _, rfl⟩ := e1
      obtain ⟨a, ht⟩ : ∃ t, l[k]? = some t := ⟨_, List.getElem?_eq_getElem (by rw [← HN.out]; exact hlt)⟩
      have hst := distL_step l k a ht
      rw [HI.out] at hst
      have c0 := ss_get hc ht
      have k0 : (0 : Int) ≤ (k : Int) := by omega
      have k1 : (k : Int) < (n : Int) := by omega
      have k2 : (k : Int) ≤ (cap : Int) := by omega
      have HB := fun W => name_is a W
      have HD := fun c2 => HCT a k c2 hk hl
      clear hc ht HCT
      generalize nmB a = x at HB hst
      generalize Lib.containsS (l.take k) a = y at HD hst
      have HS := Lib.hid hst
      clear hst
      cases x
      · go_wp2_with (first | (go_at_call 22; with_reducible refine (HB _).mono ?_; rintro e w1 ⟨rfl, rfl⟩))
        go_ret
        exact ⟨by rw [HS.out]; rfl, rfl⟩
      · cases y
        · go_wp2_with (first | (go_at_call 22; with_reducible refine (HB _).mono ?_; rintro e w1 ⟨rfl, rfl⟩) | (go_at_call 43; with_reducible refine (HD _).mono ?_; rintro e w1 ⟨rfl, rfl⟩))
          go_round
          case rel => exact ⟨k + 1, by omega, by go_num, Lib.hid (by rw [HS.out]; rfl)⟩
          case measure => simp [intOf]; omega
        · go_wp2_with (first | (go_at_call 22; with_reducible refine (HB _).mono ?_; rintro e w1 ⟨rfl, rfl⟩) | (go_at_call 43; with_reducible refine (HD _).mono ?_; rintro e w1 ⟨rfl, rfl⟩))
          go_ret
          exact ⟨by rw [HS.out]; rfl, rfl⟩
    · go_wp2
      go_ret
      exact ⟨by rw [← HI.out, List.drop_of_length_le (by rw [← HN.out]; omega)]; rfl, rfl⟩
theorem column_any (sn : ByteArray) (key : Int) (sf : Value) (l : List Cl) (s : Value) (x : ByteArray) (w : World) (hl : l.length ≤ 1000000) (hs : Cs w s l) : Calls Tryd.prog 25 #[.agg #[.string sn, s, .int .i64 key, sf], .string x] w fun e w' => e = .returned (.int .i64 (idxC x 0 l)) ∧ Below w.heap.size w w' := by
  have HN := fun W (h : Below w.heap.size w W) => names_any l s W hl (hs.below h)
  rw [← idx_col]
  clear hs
  go_enter Tryd.func25, Tryd.ntmps25
  go_wp2_with (first | (go_at_call 24; (with_reducible refine (HN _ (by go_grown)).mono ?_); rintro e w1 ⟨v, rfl, hT⟩; have hL : Below w.heap.size w w1 := bstep (by go_grown) hT.2) | (go_at_call 31; (with_reducible refine (index_any _ _ _ _ (by simpa using hl) hT.ss).mono ?_); rintro e w2 ⟨rfl, rfl⟩))
  go_ret
  exact ⟨rfl, hL⟩
end Go.Proofs.YtokbipfkpojflaaDoor.Sc
