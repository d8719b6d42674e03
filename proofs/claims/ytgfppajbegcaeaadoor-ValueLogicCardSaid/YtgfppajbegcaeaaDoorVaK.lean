/-
  The walks of one at numbers, and of Decode (layer 33).
-/
import Derived.Test.YtgfppajbegcaeaaDoorVaJ
set_option linter.unusedSimpArgs false
set_option linter.unusedVariables false
namespace Go.Proofs.YtgfppajbegcaeaaDoor.Va
open Go.RowKit Go.ChangeShapes Go.WideShapes Go.Proofs.YtgfppajbegcaeaaDoor.Sl

theorem or_eq (n : Nat) (c : UInt8) (h : n < 72057594037927936) : bits .or .u64 (IntKind.u64.wrap ((n : Int) * 256)) (IntKind.u64.wrap (c.toNat : Int)) = ((n * 256 + c.toNat : Nat) : Int) := by
  have hc := UInt8.toNat_lt c
  have e0 : IntKind.u64.wrap (c.toNat : Int) = c.toNat := by rw [IntKind.wrap_u64]; omega
  rw [e0]
  have e : IntKind.u64.wrap ((n : Int) * 256) = ((n * 256 : Nat) : Int) := by rw [IntKind.wrap_u64]; omega
  rw [e, bits_or_u64_nat (n * 256) c.toNat (by omega) (by omega)]
  have h2 := Nat.two_pow_add_eq_or_of_lt (i := 8) (b := c.toNat) (by omega) n
  rw [show (2 : Nat) ^ 8 = 256 from rfl] at h2
  rw [Nat.mul_comm n 256, ← h2]
theorem back_eq (m : Nat) (h : m < 18446744073709551616) : wrap64 (bits .xor .u64 (m : Int) 9223372036854775808) = (m : Int) - 9223372036854775808 := by
  have h1 := bits_xor_u64_nat m 9223372036854775808 h (by omega)
  rw [show ((9223372036854775808 : Nat) : Int) = 9223372036854775808 from rfl] at h1
  rw [h1]
  unfold wrap64
  by_cases h2 : m < 9223372036854775808
  · rw [xor63_lt m h2]; omega
  · rw [xor63_ge m (by omega) h]; omega
theorem one_num_eq (c : UInt8) (b : List UInt8) (h2 : ¬ c.toNat = 2) (h3 : ¬ c.toNat = 3) : oneV (c :: b) = if b.length < 8 then none else some (((c.toNat : Int), (num8 (b.take 8) : Int) - 9223372036854775808, ⟨#[]⟩), b.drop 8) := by
  rw [oneV_cons, if_neg h2, if_neg h3]
set_option maxRecDepth 20000 in
theorem one_num (c : UInt8) (b : List UInt8) (s : Value) (w : World) (hl : b.length ≤ 900000) (hs : Bs w s (c :: b)) (h2 : ¬ c.toNat = 2) (h3 : ¬ c.toNat = 3) : Calls Tryd.prog 39 #[s] w (OneV w (c :: b)) := by
  have hone := one_num_eq c b h2 h3
  obtain ⟨g, off, cap, rfl, hcap, hcm, hc⟩ := hs.open (by simp)
  unfold maxLen at hcm
  rw [List.length_cons] at hcap ⊢
  have hcap1 : (b.length : Int) + 1 ≤ (cap : Int) := by omega
  have c0 : w.cell? ⟨g, off, none⟩ = some (.int .u8 c.toNat) := hc 0 _ rfl
  have hg0 := block_of_cell c0
  have hg1 : g < w.heap.size + 1 := by omega
  have hcv := conv_byte c
  have k2 : ((c.toNat : Int) == 2) = false := by simp; omega
  have k3 : ((c.toNat : Int) == 3) = false := by simp; omega
  have n2 : ¬ (c.toNat : Int) = 2 := by omega
  have n3 : ¬ (c.toNat : Int) = 3 := by omega
  have HC := Lib.hid hc
  clear hs hc h2 h3
  by_cases h8 : b.length < 8
  · rw [if_pos h8] at hone
    have HO := Lib.hid hone
    have hb8 : (b.length : Int) + 1 < 9 := by omega
    clear hone
    go_enter Tryd.func39, Tryd.ntmps39
    go_wp2
    refine bodyPost_ret (v := .tuple #[agV c.toNat 0 ⟨#[]⟩, .int .i64 0]) (by simp [results, Tryd.results39, go_sem]) rfl ?_
    exact OneV.no _ _ _ (by go_grown) HO.out
  · rw [if_neg h8] at hone
    have HO := Lib.hid hone
    have hb8 : ¬ (b.length : Int) + 1 < 9 := by omega
    have hc8 : (9 : Int) ≤ (cap : Int) := by omega
    have hc1 : 1 < cap := by omega
    clear hone
    obtain ⟨wk, hwk⟩ : ∃ wk, wk = (w.alloc (.cells #[.int .i64 0, .int .i64 0, .string ⟨#[]⟩] 32)).alloc (.cells #[.int .i64 c.toNat, .int .i64 0, .string ⟨#[]⟩] 32) := ⟨_, rfl⟩
    have hL : Below w.heap.size w wk := by rw [hwk]; go_grown
    have HCk : Hid (∀ j u, (bcs (c :: b))[j]? = some u → wk.cell? ⟨g, off + j, none⟩ = some u) := Lib.hid fun j u hu => cell_kept (HC.out j u hu) hL
    go_enter Tryd.func39, Tryd.ntmps39
    go_wp2
    go_loop [6, 50] (fun v i => ∃ j : Nat, ∃ N : Nat, j ≤ 8 ∧ i = .int .i64 j ∧ v = .int .u64 (N : Int) ∧ N < 256 ^ j ∧ Hid (num8 (b.take j) = N)) (fun _ i => 8 - (intOf i).toNat)
    case atStart => exact ⟨0, 0, by omega, rfl, rfl, by decide, Lib.hid rfl⟩
    case round =>
      obtain ⟨j, N, hj, rfl, rfl, hN, HI⟩ := hrel
      by_cases hlt : j < 8
      · obtain ⟨x, hx⟩ : ∃ x, b[j]? = some x := ⟨_, List.getElem?_eq_getElem (by omega)⟩
        have e0 := HCk.out (j + 1) _ (bcs_get (c :: b) (j + 1) x (by rw [List.getElem?_cons_succ]; exact hx))
        rw [show off + (j + 1) = off + 1 + j by omega, hwk] at e0
        have hN2 : N < 72057594037927936 := Nat.lt_of_lt_of_le hN (Nat.pow_le_pow_right (n := 256) (by omega) (show j ≤ 7 by omega))
        have hst := num8_take b j x hx
        rw [HI.out] at hst
        have HS := Lib.hid hst
        have hbx := UInt8.toNat_lt x
        have HP : Hid (N * 256 + x.toNat < 256 ^ (j + 1)) := Lib.hid (by rw [Nat.pow_succ]; omega)
        have HE := Lib.hid (or_eq N x hN2)
        have k0 : (0 : Int) ≤ (j : Int) := by omega
        have k1 : (j : Int) < 8 := by omega
        clear hst hx hbx hN hN2
        go_wp2
        go_round
        case rel => exact ⟨j + 1, N * 256 + x.toNat, by omega, by go_num, congrArg _ HE.out, HP.out, HS⟩
        case measure => simp [intOf]; omega
      · obtain rfl : j = 8 := by omega
        have hN2 : N < 18446744073709551616 := hN
        have HE := Lib.hid (back_eq N hN2)
        have HO2 := HO.out
        rw [HI.out] at HO2
        have HO3 := Lib.hid HO2
        clear HO2 hN hN2
        go_wp2
        refine bodyPost_ret (v := .tuple #[agV c.toNat ((N : Int) - 9223372036854775808) ⟨#[]⟩, .int .i64 9]) (by simp [results, Tryd.results39, go_sem, HE.out]) rfl ?_
        exact OneV.yes _ _ _ (b.drop 8) _ (by go_grown) HO3.out (by simp; omega)
theorem one_any (b : List UInt8) (s : Value) (w : World) (h0 : b ≠ []) (hl : b.length ≤ 900000) (hs : Bs w s b) : Calls Tryd.prog 39 #[s] w (OneV w b) := by
  cases b with
  | nil => exact absurd rfl h0
  | cons c b =>
    rw [List.length_cons] at hl
    by_cases h2 : c.toNat = 2
    · obtain rfl : c = 2 := UInt8.toNat_inj.1 h2
      exact one_text b s w (by omega) hs
    · by_cases h3 : c.toNat = 3
      · obtain rfl : c = 3 := UInt8.toNat_inj.1 h3
        exact one_bool b s w (by omega) hs
      · exact one_num c b s w (by omega) hs h2 h3
end Go.Proofs.YtgfppajbegcaeaaDoor.Va
