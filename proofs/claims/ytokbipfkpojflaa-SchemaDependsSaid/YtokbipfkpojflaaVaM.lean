/-
  The walks of layer 33's Same and Order, and of the reference's Valid, All, Compare, Order and Same, of the program civiltime.
-/
import Derived.Test.YtokbipfkpojflaaVaL
set_option linter.unusedSimpArgs false
set_option linter.unusedVariables false
namespace Go.Proofs.Ytokbipfkpojflaa.Va
open Go.RowKit Go.ChangeShapes Go.WideShapes Go.Proofs.Ytokbipfkpojflaa.Sl

theorem val_ne (a b : V3) (w : World) : (binOp .neq 72 (agV a.1 a.2.1 a.2.2) (agV b.1 b.2.1 b.2.2)).run Try.prog w = .ok (.bool (!decide (a = b))) w := by
  obtain ⟨k, n, s⟩ := a
  obtain ⟨k2, n2, s2⟩ := b
  have hs : (s.toList == s2.toList) = decide (s = s2) := by
    rw [Bool.eq_iff_iff, beq_iff_eq, decide_eq_true_eq, ByteArray.toList_eq, ByteArray.toList_eq, bytes_ext]
  show (binOp .neq 72 (agV k n s) (agV k2 n2 s2)).run Try.prog w = _
  by_cases h1 : k = k2
  · by_cases h2 : n = n2
    · by_cases h3 : s = s2
      · subst h1 h2 h3; simp [go_sem, Try.underlying72]
      · rw [decide_eq_false h3] at hs
        simp [go_sem, Try.underlying72, h1, h2, h3, hs]
    · simp [go_sem, Try.underlying72, h1, h2]
  · simp [go_sem, Try.underlying72, h1]
theorem val_eq (a b : V3) (w : World) : (binOp .eql 72 (agV a.1 a.2.1 a.2.2) (agV b.1 b.2.1 b.2.2)).run Try.prog w = .ok (.bool (decide (a = b))) w := by
  obtain ⟨k, n, s⟩ := a
  obtain ⟨k2, n2, s2⟩ := b
  have hs : (s.toList == s2.toList) = decide (s = s2) := by
    rw [Bool.eq_iff_iff, beq_iff_eq, decide_eq_true_eq, ByteArray.toList_eq, ByteArray.toList_eq, bytes_ext]
  show (binOp .eql 72 (agV k n s) (agV k2 n2 s2)).run Try.prog w = _
  by_cases h1 : k = k2
  · by_cases h2 : n = n2
    · by_cases h3 : s = s2
      · subst h1 h2 h3; simp [go_sem, Try.underlying72]
      · rw [decide_eq_false h3] at hs
        simp [go_sem, Try.underlying72, h1, h2, h3, hs]
    · simp [go_sem, Try.underlying72, h1, h2]
  · simp [go_sem, Try.underlying72, h1]
theorem cell_alloc {w : World} {b o : Nat} {u : Value} (h : w.cell? ⟨b, o, none⟩ = some u) (ob : Obj) : (w.alloc ob).cell? ⟨b, o, none⟩ = some u := cell_kept h ((Below.refl _ _).alloc (Nat.le_refl _) _)
theorem bdrew {B : Nat} {a w : World} (h : Below B a w) : Below B a w.drew := ⟨h.os, h.tape, h.output, h.size, h.block⟩
theorem quiet_more {P : Program} {f : FuncId} {args : Array Value} {w : World} {a n : Nat} {v : Value} (h : ∀ W : World, Calls P f args W fun e w' => e = .returned v ∧ w' = W) :
    Calls P f args (w.drewN (a + n)) fun e w'' => e = .returned v ∧ ∃ m, w'' = w.drewN (a + m) := (h _).mono fun _ _ hh => ⟨hh.1, n, hh.2⟩
theorem ne_at {l1 l2 : List V3} {k : Nat} {x y : V3} (h1 : l1[k]? = some x) (h2 : l2[k]? = some y) (h : ¬ x = y) : ¬ l1 = l2 := fun e => h (by
  rw [e, h2] at h1
  exact (Option.some.inj h1).symm)
theorem take_at {l1 l2 : List V3} {k : Nat} {x : V3} (h1 : l1[k]? = some x) (h2 : l2[k]? = some x) (h : l1.take k = l2.take k) : l1.take (k + 1) = l2.take (k + 1) := by
  rw [List.take_add_one, List.take_add_one, h, h1, h2]
theorem ordL_step (l1 l2 : List V3) (k : Nat) (x y : V3) (h1 : l1[k]? = some x) (h2 : l2[k]? = some y) : ordL (l1.drop k) (l2.drop k) = if ordV x y = 0 then ordL (l1.drop (k + 1)) (l2.drop (k + 1)) else ordV x y := by
  have k1 := (List.getElem?_eq_some_iff.1 h1)
  have k2 := (List.getElem?_eq_some_iff.1 h2)
  rw [List.drop_eq_getElem_cons k1.1, List.drop_eq_getElem_cons k2.1, k1.2, k2.2]
  rfl
theorem ordL_short (l1 l2 : List V3) (k : Nat) (x : V3) (h1 : l1[k]? = some x) (h2 : l2.length ≤ k) : ordL (l1.drop k) (l2.drop k) = 1 := by
  have k1 := (List.getElem?_eq_some_iff.1 h1)
  rw [List.drop_eq_getElem_cons k1.1, List.drop_of_length_le h2]
  rfl
theorem ordL_end (l1 l2 : List V3) (k : Nat) (h1 : l1.length ≤ k) : ordL (l1.drop k) (l2.drop k) = if k < l2.length then -1 else 0 := by
  rw [List.drop_of_length_le h1]
  by_cases h : k < l2.length
  · rw [if_pos h, List.drop_eq_getElem_cons h]; rfl
  · rw [if_neg h, List.drop_of_length_le (by omega)]; rfl
theorem cmpI_is (a b : Int) : cmpI a b = if a < b then -1 else if b < a then 1 else 0 := rfl
/-- Texts that are not too long for any index. -/
def SzL (l : List V3) : Prop := ∀ v ∈ l, v.2.2.size ≤ 9223372036854775807
set_option maxRecDepth 20000 in
theorem equal_any (l1 l2 : List V3) (a b : Value) (w : World) (hl : l1.length ≤ 2000000) (hl2 : l2.length ≤ 2000000) (ha : Vs w a l1) (hb : Vs w b l2) :
    Calls Try.prog 40 #[a, b] w fun e w' => e = .returned (.bool (decide (l1 = l2))) ∧ Below w.heap.size w w' := by
  by_cases hz : l1.length = l2.length
  · by_cases h0 : l1.length = 0
    · have e1 : l1 = [] := List.length_eq_zero_iff.1 h0
      have e2 : l2 = [] := List.length_eq_zero_iff.1 (hz ▸ h0)
      subst e1 e2
      obtain ⟨ad, cap, rfl⟩ := ha.form
      obtain ⟨bd, bcap, rfl⟩ := hb.form
      show Calls Try.prog 40 #[.slice ad 0 cap, .slice bd 0 bcap] w fun e w' => e = .returned (.bool true) ∧ Below w.heap.size w w'
      clear ha hb hz h0 hl hl2
      go_enter Try.func40, Try.ntmps40
      go_wp2
      refine wp_loop_rounds 1 ?_
      rw [rounds_succ]
      go_wp2
      go_ret
      exact ⟨rfl, Below.refl _ _⟩
    · obtain ⟨g, off, cap, rfl, hc⟩ := ha.open h0
      obtain ⟨g2, off2, cap2, rfl, hc2⟩ := hb.open (hz ▸ h0)
      rw [← hz]
      obtain ⟨n, hn⟩ : ∃ n, n = l1.length := ⟨_, rfl⟩
      obtain ⟨Z, hZ⟩ : ∃ Z, decide (l1 = l2) = Z := ⟨_, rfl⟩
      have HN := Lib.hid hn
      have HZ := Lib.hid hZ
      have HE := Lib.hid hz
      have HC := Lib.hid hc
      have HC2 := Lib.hid hc2
      rw [← hn] at hl h0 ⊢
      rw [hZ]
      clear hc hc2 ha hb hn hZ hz hl2
      go_enter Try.func40, Try.ntmps40
      go_wp2
      go_loopw [5, 13] (fun _ i wr => ∃ k : Nat, k ≤ n ∧ i = .int .i64 k ∧ Hid (l1.take k = l2.take k) ∧ Below w.heap.size w wr) (fun _ i _ => n - (intOf i).toNat)
      case atStart => exact ⟨0, Nat.zero_le _, rfl, Lib.hid rfl, Below.refl _ _⟩
      case round =>
        obtain ⟨k, hk, rfl, HT, hL⟩ := hrel
        by_cases hlt : k < n
        · obtain ⟨⟨a, b, t⟩, ht⟩ : ∃ t, l1[k]? = some t := ⟨_, List.getElem?_eq_getElem (by rw [← HN.out]; exact hlt)⟩
          obtain ⟨⟨a2, b2, t2⟩, ht2⟩ : ∃ t, l2[k]? = some t := ⟨_, List.getElem?_eq_getElem (by rw [← HE.out, ← HN.out]; exact hlt)⟩
          obtain ⟨c0, c1, c2⟩ := vs_get HC.out ht
          have d0 := cell_kept c0 hL
          have d1 := cell_kept c1 hL
          have d2 := cell_kept c2 hL
          obtain ⟨x0, x1, x2⟩ := vs_get HC2.out ht2
          have y0 := cell_kept x0 hL
          have y1 := cell_kept x1 hL
          have y2 := cell_kept x2 hL
          have k0 : (0 : Int) ≤ (k : Int) := by omega
          have k1 : (k : Int) < (n : Int) := by omega
          clear c0 c1 c2 x0 x1 x2
          by_cases hq : ((a, b, t) : V3) = (a2, b2, t2)
          · have HS := Lib.hid (take_at ht (hq ▸ ht2) HT.out)
            have hr : ∀ W : World, (binOp .neq 72 (agV a b t) (agV a2 b2 t2)).run Try.prog W = .ok (.bool false) W := fun W => by
              have := val_ne (a, b, t) (a2, b2, t2) W; rw [decide_eq_true hq] at this; exact this
            clear hq ht ht2
            go_wp2
            go_quiet (fail)
            go_wp2
            go_roundw
            case rel => exact ⟨k + 1, by omega, by go_num, HS, bdrewN hL _⟩
            case measure => simp [intOf]; omega
          · have HS := Lib.hid (ne_at ht ht2 hq)
            have hr : ∀ W : World, (binOp .neq 72 (agV a b t) (agV a2 b2 t2)).run Try.prog W = .ok (.bool true) W := fun W => by
              have := val_ne (a, b, t) (a2, b2, t2) W; rw [decide_eq_false hq] at this; exact this
            clear hq ht ht2
            go_wp2
            go_quiet (fail)
            go_wp2
            go_ret
            exact ⟨by rw [← HZ.out, decide_eq_false HS.out]; rfl, bdrewN hL _⟩
        · go_wp2
          go_ret
          refine ⟨?_, hL⟩
          have ht := HT.out
          rw [List.take_of_length_le (by rw [← HN.out]; omega), List.take_of_length_le (by rw [← HE.out, ← HN.out]; omega)] at ht
          rw [← HZ.out, decide_eq_true ht]; rfl
  · obtain ⟨ad, cap, rfl⟩ := ha.form
    obtain ⟨bd, bcap, rfl⟩ := hb.form
    have HS : decide (l1 = l2) = false := decide_eq_false (fun e => hz (by rw [e]))
    rw [HS]
    clear ha hb HS
    go_enter Try.func40, Try.ntmps40
    go_wp2
    go_ret
    exact ⟨rfl, Below.refl _ _⟩

end Go.Proofs.Ytokbipfkpojflaa.Va
