/-
  Texts are read as what they stand for (layer 18), and the walk of the law LexBack.
-/
import Derived.Test.YtcpfbemmlmdcaaaDoorLxNb
import Derived.Test.YtcpfbemmlmdcaaaDoorLxCl
import Derived.Test.YtcpfbemmlmdcaaaDoorLxOf
set_option linter.unusedSimpArgs false
set_option linter.unusedVariables false
namespace Go.Proofs.YtcpfbemmlmdcaaaDoor.Lx
open Go.RowKit Go.ChangeShapes Go.WideShapes Go.Proofs.YtcpfbemmlmdcaaaDoor.Sl

theorem d1_nat (m : Int) (h0 : 0 ≤ m) (h9 : m ≤ 99) : ((d1 m).toNat : Int) = 48 + m / 10 := by
  unfold d1
  exact ofNat_int _ (by omega) (by omega)
theorem d0_nat (m : Int) (h0 : 0 ≤ m) (h9 : m ≤ 99) : ((d0 m).toNat : Int) = 48 + m % 10 := by
  unfold d0
  exact ofNat_int _ (by omega) (by omega)
theorem dg_of (x : UInt8) (k : Int) (h : (x.toNat : Int) = 48 + k) (h0 : 0 ≤ k) (h9 : k ≤ 9) : dgB x.toNat = true := by
  simp only [dgB, Bool.and_eq_true, decide_eq_true_eq]; omega
theorem two_six (m : Int) (h0 : 0 ≤ m) (h9 : m ≤ 59) : sixL (d1 m) (d0 m) = true ∧ numL [d1 m, d0 m] = m := by
  have e1 := d1_nat m h0 (by omega)
  have e2 := d0_nat m h0 (by omega)
  have g1 := dg_of _ _ e1 (by omega) (by omega)
  have g2 := dg_of _ _ e2 (by omega) (by omega)
  constructor
  · simp only [sixL, g1, g2, Bool.and_true, Bool.true_and]
    exact decide_eq_true (by omega)
  · simp only [numL, List.foldl_cons, List.foldl_nil, e1, e2]
    omega
/-- The bytes of the hours. -/
def hourL (n : Int) : List UInt8 := if n < 36000 then [d0 (n / 3600)] else [d1 (n / 3600), d0 (n / 3600)]
theorem hour_is (n : Int) (h0 : 0 ≤ n) (h1 : n ≤ 93600) : wholeL (hourL n) = true ∧ (hourL n).length ≤ 2 ∧ numL (hourL n) = n / 3600 ∧ (58 : UInt8) ∉ hourL n ∧ ∃ x r, hourL n = x :: r ∧ dgB x.toNat = true := by
  have e1 := d1_nat (n / 3600) (by omega) (by omega)
  have e2 := d0_nat (n / 3600) (by omega) (by omega)
  have g1 := dg_of _ _ e1 (by omega) (by omega)
  have g2 := dg_of _ _ e2 (by omega) (by omega)
  have n1 : ¬ (58 : UInt8) = d1 (n / 3600) := by intro e; have := dg_lt _ g1; rw [← e] at this; simp at this
  have n2 : ¬ (58 : UInt8) = d0 (n / 3600) := by intro e; have := dg_lt _ g2; rw [← e] at this; simp at this
  unfold hourL
  split
  · refine ⟨by simp [wholeL, allDg, g2], by simp, ?_, by simp [n2], _, _, rfl, g2⟩
    simp only [numL, List.foldl_cons, List.foldl_nil, e2]; omega
  · have n3 : ¬ (d1 (n / 3600)).toNat = 48 := by omega
    refine ⟨by simp [wholeL, allDg, g1, g2, n3], by simp, ?_, by simp [n1, n2], _, _, rfl, g1⟩
    simp only [numL, List.foldl_cons, List.foldl_nil, e1, e2]; omega
def tailT (n : Int) : List UInt8 := 58 :: d1 (n / 60 % 60) :: d0 (n / 60 % 60) :: (if 0 < n % 60 then [58, d1 (n % 60), d0 (n % 60)] else [])
theorem app_list (a b : ByteArray) : (a ++ b).data.toList = a.data.toList ++ b.data.toList := by simp
theorem spanS_list (n : Int) : (spanS n).data.toList = hourL n ++ tailT n := by
  unfold spanS
  rw [app_list, app_list, app_list]
  have e1 : (hourS n).data.toList = hourL n := by unfold hourS hourL; split <;> rfl
  have e2 : (secS n).data.toList = if 0 < n % 60 then [58, d1 (n % 60), d0 (n % 60)] else [] := by
    unfold secS; split
    · rw [app_list]; rfl
    · rfl
  rw [e1, e2]
  simp [tailT, twoS]
theorem span_back (n : Int) (h0 : 0 ≤ n) (h1 : n ≤ 93600) : spanZ (spanS n) = some n := by
  obtain ⟨hw, hl, hn, h58, _⟩ := hour_is n h0 h1
  have hc : ¬ (wholeL (hourL n) = false ∨ 2 < (hourL n).length) := by rw [hw]; simp; exact hl
  obtain ⟨s1, n1⟩ := two_six (n / 60 % 60) (by omega) (by omega)
  rw [rspL_is (spanS n) (hourL n) (tailT n) (spanS_list n) h58 (.inr ⟨_, rfl⟩)]
  unfold tailT
  split
  · obtain ⟨s2, n2⟩ := two_six (n % 60) (by omega) (by omega)
    rw [rspL_six _ _ _ _ _ _ _ hc, if_pos ⟨s1, rfl, s2⟩, n1, n2, hn]
    congr 1; omega
  · rw [rspL_three _ _ _ _ hc, if_pos s1, n1, hn]
    congr 1; omega
theorem span_last (n : Int) (h0 : 0 ≤ n) (h1 : n ≤ 93600) : ∃ c, (spanS n).data.toList.getLast? = some c ∧ dgB c.toNat = true := by
  rw [spanS_list]
  unfold tailT
  split
  · have e := d0_nat (n % 60) (by omega) (by omega)
    exact ⟨d0 (n % 60), by simp, dg_of _ _ e (by omega) (by omega)⟩
  · have e := d0_nat (n / 60 % 60) (by omega) (by omega)
    exact ⟨d0 (n / 60 % 60), by simp, dg_of _ _ e (by omega) (by omega)⟩
theorem clk_plain (n : Int) (h0 : 0 ≤ n) (h1 : n ≤ 93600) : clkZ (spanS n) = (n, 1, 0) := by
  obtain ⟨c, hc, hd⟩ := span_last n h0 h1
  have hb := dg_lt c hd
  have hk : wsu c = -1 := by
    rcases clk_cases c with ⟨h, _⟩ | ⟨h, _⟩ | ⟨h, _⟩ | ⟨_, h⟩
    · omega
    · omega
    · omega
    · exact h
  unfold clkZ
  rw [hc]
  show clkR (clkC (spanS n) c) (spanZ (clkT (spanS n) c)) = _
  rw [show clkC (spanS n) c = 1 by simp [clkC, hk], show clkT (spanS n) c = spanS n by simp [clkT, hk], span_back n h0 h1]
  simp [clkR]; omega
theorem clk_letter (n : Int) (h0 : 0 ≤ n) (h1 : n ≤ 93600) (x : UInt8) (k : Int) (hk : wsu x = k) (hk1 : 0 ≤ k) : clkZ (spanS n ++ ⟨#[x]⟩) = (n, k + 1, 0) := by
  unfold clkZ
  have e : (spanS n ++ ⟨#[x]⟩).data.toList = (spanS n).data.toList ++ [x] := app_list _ _
  rw [e, List.getLast?_concat]
  have ht : clkT (spanS n ++ ⟨#[x]⟩) x = spanS n := by
    unfold clkT
    rw [if_neg (by omega)]
    have : (spanS n ++ ⟨#[x]⟩).size - 1 = (spanS n).size := by rw [ByteArray.size_append]; show (spanS n).size + 1 - 1 = _; omega
    rw [this]
    have h2 := bytes_of ((spanS n ++ ⟨#[x]⟩).extract 0 (spanS n).size) (spanS n).data.toList (by
      rw [ext_head, e, List.take_append_of_le_length (by rw [len_is]; omega), List.take_of_length_le (by rw [len_is]; omega)])
    rw [h2]
  show clkR (clkC (spanS n ++ ⟨#[x]⟩) x) (spanZ (clkT (spanS n ++ ⟨#[x]⟩) x)) = _
  rw [show clkC (spanS n ++ ⟨#[x]⟩) x = k + 1 by unfold clkC; rw [if_neg (by omega), hk], ht, span_back n h0 h1]
  simp [clkR]; omega
theorem clock_back (n c : Int) (h : clkS n c ≠ ⟨#[]⟩) : clkZ (clkS n c) = (n, c, 0) := by
  unfold clkS at h ⊢
  cases hl : clkL c with
  | none => rw [hl] at h; exact absurd rfl h
  | some l =>
    rw [hl] at h
    show clkZ (if n < 0 ∨ 93600 < n then _ else _) = _
    by_cases hb : n < 0 ∨ 93600 < n
    · exact absurd (if_pos hb) h
    · rw [if_neg hb]
      have h0 : 0 ≤ n := by omega
      have h1 : n ≤ 93600 := by omega
      unfold clkL at hl
      split at hl
      · next hc => cases hl; subst hc; rw [show spanS n ++ (⟨#[]⟩ : ByteArray) = spanS n from ByteArray.append_empty]; exact clk_plain n h0 h1
      · split at hl
        · next hc => cases hl; subst hc; exact clk_letter n h0 h1 115 1 (by decide) (by omega)
        · split at hl
          · next hc => cases hl; subst hc; exact clk_letter n h0 h1 117 2 (by decide) (by omega)
          · cases hl
theorem off_back (n : Int) (h : offS n ≠ ⟨#[]⟩) : offZ (offS n) = (n, 0) := by
  unfold offS at h ⊢
  by_cases hb : n < -93600 ∨ 93600 < n
  · exact absurd (if_pos hb) h
  · rw [if_neg hb]
    by_cases hn : n < 0
    · rw [if_pos hn]
      have e : ((⟨#[45]⟩ : ByteArray) ++ spanS (-n)).data.toList = 45 :: (spanS (-n)).data.toList := app_list _ _
      have hN : offNeg (⟨#[45]⟩ ++ spanS (-n)) = true := by unfold offNeg; rw [e]; simp [Lib.hasPrefix, List.isPrefixOf]
      have hT : offT (⟨#[45]⟩ ++ spanS (-n)) = spanS (-n) := by
        unfold offT; rw [e]
        simp [Lib.trimPrefix, Lib.hasPrefix, List.isPrefixOf]
      rw [offZ, hN, hT, span_back (-n) (by omega) (by omega)]
      show (if true = true ∧ -n = 0 then ((0, 3) : Int × Int) else if 93600 < -n then (0, 2) else if true = true then (- -n, 0) else (-n, 0)) = (n, 0)
      rw [if_neg (by omega), if_neg (by omega), if_pos rfl, Int.neg_neg]
    · rw [if_neg hn]
      obtain ⟨_, _, _, _, x, r, hx, hd⟩ := hour_is n (by omega) (by omega)
      have hb2 := dg_lt x hd
      have hx45 : ¬ x = 45 := by rintro rfl; simp at hb2
      have hx46 : ¬ (45 : UInt8) = x := fun e => hx45 e.symm
      have e : (spanS n).data.toList = x :: (r ++ tailT n) := by rw [spanS_list, hx]; rfl
      have hN : offNeg (spanS n) = false := by unfold offNeg; rw [e]; simp [Lib.hasPrefix, List.isPrefixOf, hx46]
      have hT : offT (spanS n) = spanS n := by
        unfold offT; rw [e]
        simp [Lib.trimPrefix, Lib.hasPrefix, List.isPrefixOf, hx46]
        rw [bytes_of (spanS n) _ e]
      rw [offZ, hN, hT, span_back n (by omega) (by omega)]
      simp [offR]; omega

theorem mon_all : ((List.range 12).all fun k => decide (findZ MON (getZ MON ((k : Int) + 1)) = ((k : Int) + 1, 0))) = true := by kernel_rfl
theorem wkd_all : ((List.range 7).all fun k => decide (findZ WKD (getZ WKD ((k : Int) + 1)) = ((k : Int) + 1, 0))) = true := by kernel_rfl
theorem mon_in (n : Int) (h0 : 1 ≤ n) (h1 : n ≤ 12) : findZ MON (getZ MON n) = (n, 0) := by
  have := of_decide_eq_true (List.all_eq_true.1 mon_all (n - 1).toNat (List.mem_range.2 (by omega)))
  rwa [show (((n - 1).toNat : Nat) : Int) + 1 = n by omega] at this
theorem wkd_in (n : Int) (h0 : 1 ≤ n) (h1 : n ≤ 7) : findZ WKD (getZ WKD n) = (n, 0) := by
  have := of_decide_eq_true (List.all_eq_true.1 wkd_all (n - 1).toNat (List.mem_range.2 (by omega)))
  rwa [show (((n - 1).toNat : Nat) : Int) + 1 = n by omega] at this
theorem mon_out (n : Int) (h : n < 1 ∨ 12 < n) : findZ MON (getZ MON n) = (0, 3) := by
  rw [show getZ MON n = ⟨#[]⟩ from if_pos h]; kernel_rfl
theorem wkd_out (n : Int) (h : n < 1 ∨ 7 < n) : findZ WKD (getZ WKD n) = (0, 3) := by
  rw [show getZ WKD n = ⟨#[]⟩ from if_pos h]; kernel_rfl
end Go.Proofs.YtcpfbemmlmdcaaaDoor.Lx
