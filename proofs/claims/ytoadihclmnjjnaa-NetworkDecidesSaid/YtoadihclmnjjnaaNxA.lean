/-
  Networks, the reference: compose, Table (layer 46).
-/
import Derived.Test.YtoadihclmnjjnaaNwP
import Derived.Test.YtoadihclmnjjnaaNwX
import Derived.Test.YtoadihclmnjjnaaRef3
set_option linter.unusedSimpArgs false
set_option linter.unusedVariables false
set_option maxRecDepth 100000
namespace Go.Proofs.Ytoadihclmnjjnaa.Nw
open Go Go.RowKit Go.ChangeShapes Go.WideShapes Go.Proofs.Ytoadihclmnjjnaa.Sl Go.Proofs.Ytoadihclmnjjnaa.Al Go.Lib

/-- One row of a composition, as the reference reckons it. -/
def cIn (a b o r : Nat) : Nat → Nat
  | 0 => o
  | s + 1 => if a.testBit r = true ∧ b.testBit s = true then cIn a b o r s ||| bas r s else cIn a b o r s
def cO (a b : Nat) : Nat → Nat
  | 0 => 0
  | r + 1 => cIn a b (cO a b r) r 13
theorem cIn_lt (a b o r : Nat) (ho : o < 8192) : ∀ s, cIn a b o r s < 8192
  | 0 => ho
  | s + 1 => by
    rw [cIn]
    split
    · exact or_lt (cIn_lt a b o r ho s) (bas_lt r s)
    · exact cIn_lt a b o r ho s
theorem cO_lt (a b : Nat) : ∀ r, cO a b r < 8192
  | 0 => Nat.lt_of_lt_of_le Nat.zero_lt_one (by decide)
  | r + 1 => cIn_lt a b _ r (cO_lt a b r) 13
theorem cIn_bit (a b o r c : Nat) : ∀ s, (cIn a b o r s).testBit c = true ↔ o.testBit c = true ∨ ∃ q, q < s ∧ a.testBit r = true ∧ b.testBit q = true ∧ (bas r q).testBit c = true
  | 0 => by rw [cIn]; exact ⟨fun h => .inl h, fun h => by rcases h with h | ⟨q, hq, _⟩; exact h; omega⟩
  | s + 1 => by
    have ih := cIn_bit a b o r c s
    rw [cIn]
    by_cases h : a.testBit r = true ∧ b.testBit s = true
    · rw [if_pos h, Nat.testBit_or, Bool.or_eq_true, ih]
      constructor
      · rintro ((h1 | ⟨q, hq, h1⟩) | h1)
        · exact .inl h1
        · exact .inr ⟨q, by omega, h1⟩
        · exact .inr ⟨s, by omega, h.1, h.2, h1⟩
      · rintro (h1 | ⟨q, hq, h1, h2, h3⟩)
        · exact .inl (.inl h1)
        · by_cases e : q = s
          · subst e; exact .inr h3
          · exact .inl (.inr ⟨q, by omega, h1, h2, h3⟩)
    · rw [if_neg h, ih]
      constructor
      · rintro (h1 | ⟨q, hq, h1⟩)
        · exact .inl h1
        · exact .inr ⟨q, by omega, h1⟩
      · rintro (h1 | ⟨q, hq, h1, h2, h3⟩)
        · exact .inl h1
        · by_cases e : q = s
          · subst e; exact (h ⟨h1, h2⟩).elim
          · exact .inr ⟨q, by omega, h1, h2, h3⟩
theorem cO_bit (a b c : Nat) : ∀ r, (cO a b r).testBit c = true ↔ ∃ p q, p < r ∧ q < 13 ∧ a.testBit p = true ∧ b.testBit q = true ∧ (bas p q).testBit c = true
  | 0 => by
    rw [cO]
    simp
  | r + 1 => by
    rw [cO, cIn_bit, cO_bit a b c r]
    constructor
    · rintro (⟨p, q, h1, h2⟩ | ⟨q, hq, h1⟩)
      · exact ⟨p, q, by omega, h2⟩
      · exact ⟨r, q, by omega, hq, h1⟩
    · rintro ⟨p, q, h1, h2, h3⟩
      by_cases e : p = r
      · subst e; exact .inr ⟨q, h2, h3⟩
      · exact .inl ⟨p, q, by omega, h2, h3⟩
theorem cO_cmp (a b : Nat) : cO a b 13 = cmp a b := by
  apply Nat.eq_of_testBit_eq
  intro c
  rw [Bool.eq_iff_iff, cO_bit, cmp_bit]
/-- The table of compositions, as a list. -/
def tabL (p : Nat) : List Nat := (List.range p).map fun p => bas (p / 13) (p % 13)
theorem tabL_get (p q : Nat) (h : q < p) : (tabL p)[q]? = some (bas (q / 13) (q % 13)) := by simp [tabL, h]
theorem tabL_succ (p : Nat) : tabL (p + 1) = tabL p ++ [bas (p / 13) (p % 13)] := by simp [tabL, List.range_succ]
theorem tabL_len (p : Nat) : (tabL p).length = p := by simp [tabL]
/-- The slice v holds the table. -/
def Tb (w : World) (v : Value) : Prop := ∃ g cap, v = .slice (some ⟨g, 0, none⟩) 169 cap ∧ ∀ r s, r < 13 → s < 13 → w.cell? ⟨g, 13 * r + s, none⟩ = some (.int .i64 ((bas r s : Nat) : Int))
theorem Tb.below {w w' : World} {v : Value} (h : Tb w v) (hb : Below w.heap.size w w') : Tb w' v := by
  obtain ⟨g, cap, rfl, hc⟩ := h
  exact ⟨g, cap, rfl, fun r s hr hs => Go.Proofs.Ytoadihclmnjjnaa.Sl.cell_kept (hc r s hr hs) hb⟩
set_option maxHeartbeats 4000000 in
theorem compose_tab (a b : Nat) (ha : a < 8192) (hb : b < 8192) (v : Value) (w : World) (hv : Tb w v) : Calls Try.prog 62 #[v, .int .i64 (a : Int), .int .i64 (b : Int)] w fun e w' => e = .returned (.int .i64 ((cmp a b : Nat) : Int)) ∧ w = w' := by
  obtain ⟨g, cap, rfl, hc⟩ := hv
  have HC := Lib.hid hc
  clear hc
  go_enter Try.func62, Try.ntmps62
  go_wp2
  go_loop [7, 8] (fun o rv => ∃ r : Nat, r ≤ 13 ∧ rv = .int .i64 (r : Int) ∧ o = .int .i64 ((cO a b r : Nat) : Int)) (fun _ rv => 13 - (RowKit.intOf rv).toNat)
  case atStart => exact ⟨0, by omega, rfl, rfl⟩
  case round =>
    obtain ⟨r, hr, rfl, rfl⟩ := hrel
    by_cases hr13 : r < 13
    · have r0 : (0 : Int) ≤ (r : Int) := by omega
      have r1 : (r : Int) < 13 := by omega
      obtain ⟨o, ho⟩ : ∃ o, o = cO a b r := ⟨_, rfl⟩
      have hol : o < 8192 := by rw [ho]; exact cO_lt a b r
      have HO := Lib.hid ho
      rw [← ho]
      clear ho
      go_wp2
      go_loop [7, 9] (fun x sv => ∃ s : Nat, s ≤ 13 ∧ sv = .int .i64 (s : Int) ∧ x = .int .i64 ((cIn a b o r s : Nat) : Int)) (fun _ sv => 13 - (RowKit.intOf sv).toNat)
      case atStart => exact ⟨0, by omega, rfl, rfl⟩
      case round =>
        obtain ⟨s, hs, rfl, rfl⟩ := hrel
        by_cases hs13 : s < 13
        · have s0 : (0 : Int) ≤ (s : Int) := by omega
          have s1 : (s : Int) < 13 := by omega
          have t1 := Bt.bit_test a r (by omega)
          have t2 := Bt.bit_test b s (by omega)
          have hx : cIn a b o r (s + 1) = if a.testBit r = true ∧ b.testBit s = true then cIn a b o r s ||| bas r s else cIn a b o r s := rfl
          have HX := Lib.hid hx
          have c1 := HC.out r s hr13 hs13
          have hl := cIn_lt a b o r hol s
          have hbl := bas_lt r s
          have hor := Bt.bits_or (cIn a b o r s) (bas r s) (by omega) (by omega)
          have hidx : IntKind.i64.wrap ((13 : Int) * (r : Int) + (s : Int)) = ((13 * r + s : Nat) : Int) := by rw [IntKind.wrap_i64]; omega
          have hi1 : ((13 * r + s : Nat) : Int) < 169 := by omega
          have hi0 : (0 : Int) ≤ ((13 * r + s : Nat) : Int) := by omega
          clear hx
          cases h1 : a.testBit r
          · rw [h1] at t1
            have HE := Lib.hid (HX.out.trans (if_neg (by rw [h1]; simp)))
            clear h1 HX
            go_wp2
            go_round
            case rel => exact ⟨s + 1, by omega, by go_num, by rw [HE.out]⟩
            case measure => simp [RowKit.intOf]; omega
          · cases h2 : b.testBit s
            · rw [h1] at t1
              rw [h2] at t2
              have HE := Lib.hid (HX.out.trans (if_neg (by rw [h2]; simp)))
              clear h1 h2 HX
              go_wp2
              go_round
              case rel => exact ⟨s + 1, by omega, by go_num, by rw [HE.out]⟩
              case measure => simp [RowKit.intOf]; omega
            · rw [h1] at t1
              rw [h2] at t2
              have HE := Lib.hid (HX.out.trans (if_pos ⟨h1, h2⟩))
              clear h1 h2 HX
              go_wp2
              go_round
              case rel => exact ⟨s + 1, by omega, by go_num, by rw [HE.out]⟩
              case measure => simp [RowKit.intOf]; omega
        · have hs2 : s = 13 := by omega
          subst hs2
          go_wp2
          go_round
          case rel => exact ⟨r + 1, by omega, by go_num, by rw [cO, ← HO.out]⟩
          case measure => simp [RowKit.intOf]; omega
    · have hr2 : r = 13 := by omega
      subst hr2
      go_wp2
      go_ret
      exact ⟨by rw [← cO_cmp]; rfl, rfl⟩
end Go.Proofs.Ytoadihclmnjjnaa.Nw
