/-
  The walks of slices.Index and slices.Equal at lists of bytes (layer 33).
-/
import Derived.Test.YtgfppajbegcaeaaDoorVaB
set_option linter.unusedSimpArgs false
set_option linter.unusedVariables false
namespace Go.Proofs.YtgfppajbegcaeaaDoor.Va
open Go.RowKit Go.ChangeShapes Go.WideShapes Go.Proofs.YtgfppajbegcaeaaDoor.Sl

/-- The place of the first zero. -/
def idx0 : Nat → List UInt8 → Int
  | _, [] => -1
  | k, c :: l => if c = 0 then k else idx0 (k + 1) l
theorem idx0_step (l : List UInt8) (k : Nat) (c : UInt8) (h : l[k]? = some c) : idx0 k (l.drop k) = if c = 0 then (k : Int) else idx0 (k + 1) (l.drop (k + 1)) := by
  have hk : k < l.length := (List.getElem?_eq_some_iff.1 h).1
  rw [List.drop_eq_getElem_cons hk, idx0, (List.getElem?_eq_some_iff.1 h).2]
theorem idx0_spl : ∀ (l : List UInt8) (k : Nat), idx0 k l = match spl l with
    | none => -1
    | some p => (k : Int) + p.1.length
  | [], _ => rfl
  | c :: l, k => by
    rw [idx0, spl]
    by_cases h : c = 0
    · rw [if_pos h, if_pos h]; simp
    · rw [if_neg h, if_neg h, idx0_spl l (k + 1)]
      cases spl l with
      | none => rfl
      | some p => show ((k + 1 : Nat) : Int) + (p.1.length : Int) = (k : Int) + ((p.1.length + 1 : Nat) : Int); omega
theorem bcs_get (b : List UInt8) (k : Nat) (c : UInt8) (h : b[k]? = some c) : (bcs b)[k]? = some (.int .u8 c.toNat) := by
  unfold bcs; rw [List.getElem?_map, h]; rfl
theorem zero_iff (c : UInt8) : c = 0 ↔ c.toNat = 0 := ⟨fun h => by rw [h]; rfl, fun h => UInt8.toNat_inj.1 h⟩

set_option maxRecDepth 20000 in
theorem index_any (b : List UInt8) (s : Value) (w : World) (hl : b.length ≤ 1000000) (hs : Sl w s b.length 1 (bcs b)) :
    Calls Tryd.prog 61 #[s, .int .u8 0] w fun e w' => e = .returned (.int .i64 (idx0 0 b)) ∧ w = w' := by
  obtain ⟨Z, hZ⟩ : ∃ c, idx0 0 b = c := ⟨_, rfl⟩
  have HZ := Lib.hid hZ
  have HV := Lib.hid hs
  obtain ⟨ad, cap, rfl⟩ := hs.form
  obtain ⟨n, hn⟩ : ∃ n, n = b.length := ⟨_, rfl⟩
  have HN := Lib.hid hn
  rw [hZ]
  rw [← hn] at hl ⊢
  clear hs hZ hn
  go_enter Tryd.func61, Tryd.ntmps61
  go_wp2
  go_loop [8] (fun i => ∃ k : Nat, k ≤ n ∧ i = .int .i64 k ∧ Hid (idx0 k (b.drop k) = Z)) (fun i => n - (intOf i).toNat)
  case atStart => exact ⟨0, Nat.zero_le _, rfl, Lib.hid HZ.out⟩
  case round =>
    obtain ⟨k, hk, rfl, HI⟩ := hrel
    by_cases hlt : k < n
    · have h10 : ¬ b.length = 0 := by rw [← HN.out]; omega
      obtain ⟨g, off, cap, hsl, hc⟩ := HV.out.open h10
      simp only [Value.slice.injEq] at hsl
      obtain ⟨rfl, hx, rfl⟩ := hsl
      clear hx
      obtain ⟨c, ht⟩ : ∃ t, b[k]? = some t := ⟨_, List.getElem?_eq_getElem (by rw [← HN.out]; exact hlt)⟩
      have c0 := hc _ _ (bcs_get b k c ht)
      have hst := idx0_step b k _ ht
      rw [HI.out] at hst
      have HS := Lib.hid hst
      have k0 : (0 : Int) ≤ (k : Int) := by omega
      have k1 : (k : Int) < (n : Int) := by omega
      clear ht hst hc
      by_cases hz : c = 0
      · have HS2 : Hid (Z = k) := Lib.hid (by have := HS.out; rw [if_pos hz] at this; exact this)
        subst hz
        go_wp2
        go_ret
        exact ⟨by rw [HS2.out]; rfl, rfl⟩
      · have HS2 : Hid (idx0 (k + 1) (b.drop (k + 1)) = Z) := Lib.hid (by have := HS.out; rw [if_neg hz] at this; exact this.symm)
        have hz1 : ¬ c.toNat = 0 := fun h => hz ((zero_iff c).2 h)
        have hz2 : ((0 : Int) == (c.toNat : Int)) = false := by simp; omega
        clear hz
        go_wp2
        go_round
        case rel => exact ⟨k + 1, by omega, by go_num, HS2⟩
        case measure => simp [intOf]; omega
    · go_wp2
      go_ret
      refine ⟨?_, rfl⟩
      have := HI.out
      rw [List.drop_of_length_le (by rw [← HN.out]; omega)] at this
      rw [← this]; rfl

theorem bne_at {l1 l2 : List UInt8} {k : Nat} {x y : UInt8} (h1 : l1[k]? = some x) (h2 : l2[k]? = some y) (h : ¬ x = y) : ¬ l1 = l2 := fun e => h (by
  rw [e, h2] at h1
  exact (Option.some.inj h1).symm)
theorem btake_at {l1 l2 : List UInt8} {k : Nat} {x : UInt8} (h1 : l1[k]? = some x) (h2 : l2[k]? = some x) (h : l1.take k = l2.take k) : l1.take (k + 1) = l2.take (k + 1) := by
  rw [List.take_add_one, List.take_add_one, h, h1, h2]
set_option maxRecDepth 20000 in
theorem bequal_any (l1 l2 : List UInt8) (a b : Value) (w : World) (hl : l1.length ≤ 1000000) (hl2 : l2.length ≤ 1000000) (ha : Sl w a l1.length 1 (bcs l1)) (hb : Sl w b l2.length 1 (bcs l2)) :
    Calls Tryd.prog 16 #[a, b] w fun e w' => e = .returned (.bool (decide (l1 = l2))) ∧ Below w.heap.size w w' := by
  by_cases hz : l1.length = l2.length
  · by_cases h0 : l1.length = 0
    · have e1 : l1 = [] := List.length_eq_zero_iff.1 h0
      have e2 : l2 = [] := List.length_eq_zero_iff.1 (hz ▸ h0)
      subst e1 e2
      obtain ⟨ad, cap, rfl⟩ := ha.form
      obtain ⟨bd, bcap, rfl⟩ := hb.form
      show Calls Tryd.prog 16 #[.slice ad 0 cap, .slice bd 0 bcap] w fun e w' => e = .returned (.bool true) ∧ Below w.heap.size w w'
      clear ha hb hz h0 hl hl2
      go_enter Tryd.func16, Tryd.ntmps16
      go_wp2
      refine wp_loop_rounds 1 ?_
      rw [rounds_succ]
      go_wp2
      go_ret
      exact ⟨rfl, Below.refl _ _⟩
    · obtain ⟨g, off, cap, rfl, hc⟩ := ha.open h0
      obtain ⟨g2, off2, cap2, rfl, hc2⟩ := hb.open (hz ▸ h0)
      rw [← hz]
      obtain ⟨n, hn⟩ : ∃ n, n = l1.length := ⟨_, rfl⟩
      obtain ⟨Z, hZ⟩ : ∃ Z, decide (l1 = l2) = Z := ⟨_, rfl⟩
      have HN := Lib.hid hn
      have HZ := Lib.hid hZ
      have HE := Lib.hid hz
      have HC := Lib.hid hc
      have HC2 := Lib.hid hc2
      rw [← hn] at hl h0 ⊢
      rw [hZ]
      clear hc hc2 ha hb hn hZ hz hl2
      go_enter Tryd.func16, Tryd.ntmps16
      go_wp2
      go_loopw [5, 13] (fun _ i wr => ∃ k : Nat, k ≤ n ∧ i = .int .i64 k ∧ Hid (l1.take k = l2.take k) ∧ Below w.heap.size w wr) (fun _ i _ => n - (intOf i).toNat)
      case atStart => exact ⟨0, Nat.zero_le _, rfl, Lib.hid rfl, Below.refl _ _⟩
      case round =>
        obtain ⟨k, hk, rfl, HT, hL⟩ := hrel
        by_cases hlt : k < n
        · obtain ⟨c, ht⟩ : ∃ t, l1[k]? = some t := ⟨_, List.getElem?_eq_getElem (by rw [← HN.out]; exact hlt)⟩
          obtain ⟨c2, ht2⟩ : ∃ t, l2[k]? = some t := ⟨_, List.getElem?_eq_getElem (by rw [← HE.out, ← HN.out]; exact hlt)⟩
          have d0 := cell_kept (HC.out _ _ (bcs_get _ _ _ ht)) hL
          have y0 := cell_kept (HC2.out _ _ (bcs_get _ _ _ ht2)) hL
          have k0 : (0 : Int) ≤ (k : Int) := by omega
          have k1 : (k : Int) < (n : Int) := by omega
          by_cases hq : c = c2
          · subst hq
            have HS := Lib.hid (btake_at ht ht2 HT.out)
            clear ht ht2
            go_wp2
            go_quiet (fail)
            go_wp2
            go_roundw
            case rel => exact ⟨k + 1, by omega, by go_num, HS, bdrewN hL _⟩
            case measure => simp [intOf]; omega
          · have HS := Lib.hid (bne_at ht ht2 hq)
            have q1 : ¬ c.toNat = c2.toNat := fun h => hq (UInt8.toNat_inj.1 h)
            have q2 : ((c.toNat : Int) == (c2.toNat : Int)) = false := by simp; omega
            have q3 : (c.toNat == c2.toNat) = false := by simpa using q1
            clear hq ht ht2
            go_wp2
            go_quiet (fail)
            go_wp2
            go_ret
            exact ⟨by rw [← HZ.out, decide_eq_false HS.out]; rfl, bdrewN hL _⟩
        · go_wp2
          go_ret
          refine ⟨?_, hL⟩
          have ht := HT.out
          rw [List.take_of_length_le (by rw [← HN.out]; omega), List.take_of_length_le (by rw [← HE.out, ← HN.out]; omega)] at ht
          rw [← HZ.out, decide_eq_true ht]; rfl
  · obtain ⟨ad, cap, rfl⟩ := ha.form
    obtain ⟨bd, bcap, rfl⟩ := hb.form
    have HS : decide (l1 = l2) = false := decide_eq_false (fun e => hz (by rw [e]))
    rw [HS]
    clear ha hb HS
    go_enter Tryd.func16, Tryd.ntmps16
    go_wp2
    go_ret
    exact ⟨rfl, Below.refl _ _⟩
end Go.Proofs.YtgfppajbegcaeaaDoor.Va
