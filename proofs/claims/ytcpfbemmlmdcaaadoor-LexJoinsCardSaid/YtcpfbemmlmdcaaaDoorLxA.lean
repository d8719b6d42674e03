/-
  The walks of layer 18's writing of spans (two, spanText, OffsetText) and of the reference's, of the program civiltime.
-/
import Derived.Test.YtcpfbemmlmdcaaaDoorChecked
import Derived.Test.YtcpfbemmlmdcaaaDoorSl
import Derived.WalkKit
import Derived.ProofKit
import Derived.OpenShut
import Derived.Handy
import Derived.WalkLawsBesides
import Derived.WalkSpells
import Derived.Outline
import Derived.Lib.Hide
import Derived.BigQuiet
import Derived.Deep.QuietTactic
import Derived.Deep.RegionHeld3
set_option linter.unusedSimpArgs false
set_option linter.unusedVariables false
namespace Go.Proofs.YtcpfbemmlmdcaaaDoor.Lx
open Go.RowKit Go.ChangeShapes Go.WideShapes Go.Proofs.YtcpfbemmlmdcaaaDoor.Sl

/-- Two digits of a number from 0 to 99. -/
def d1 (n : Int) : UInt8 := UInt8.ofNat (48 + n / 10).toNat
def d0 (n : Int) : UInt8 := UInt8.ofNat (48 + n % 10).toNat
def twoS (n : Int) : ByteArray := ⟨#[d1 n, d0 n]⟩

theorem enc_all : ((List.range 128).all fun k => decide (Utf8.encode (k : Int) = ⟨#[UInt8.ofNat k]⟩)) = true := by kernel_rfl
theorem enc_lt (z : Int) (h0 : 0 ≤ z) (h1 : z < 128) : Utf8.encode z = ⟨#[UInt8.ofNat z.toNat]⟩ := by
  have := List.all_eq_true.1 enc_all z.toNat (List.mem_range.2 (by omega))
  rw [Int.toNat_of_nonneg h0] at this
  exact of_decide_eq_true this
theorem ofNat_int (z : Int) (h0 : 0 ≤ z) (h1 : z < 256) : ((UInt8.ofNat z.toNat).toNat : Int) = z := by
  rw [UInt8.toNat_ofNat']; omega

theorem two_any (n : Int) (w : World) (h0 : 0 ≤ n) (h1 : n ≤ 99) : Calls Tryd.prog 69 #[.int .i64 n] w fun e w' => e = .returned (.string (twoS n)) ∧ Below w.heap.size w w' := by
  have hconv : ∀ x y : Int, x = 48 + n / 10 → y = 48 + n % 10 → (convert 79 9 (.slice (some ⟨w.heap.size, 0, none⟩) 2 2)).run Tryd.prog (w.alloc (.cells #[.int .u8 x, .int .u8 y] 5)) = .ok (.string (twoS n)) (w.alloc (.cells #[.int .u8 x, .int .u8 y] 5)) := by
    intro x y hx hy
    refine run_convert_bytes_back (P := Tryd.prog) _ 79 9 5 _ 2 [d1 n, d0 n] Tryd.underlying79 Tryd.underlying5 Tryd.underlying9 ?_
    intro j hj
    have := cells_new w [.int .u8 x, .int .u8 y] 5 j
    refine this _ ?_
    have e1 : ((d1 n).toNat : Int) = x := by rw [hx]; exact ofNat_int _ (by omega) (by omega)
    have e0 : ((d0 n).toNat : Int) = y := by rw [hy]; exact ofNat_int _ (by omega) (by omega)
    rcases j with _ | _ | j
    · simp [e1]
    · simp [e0]
    · simp at hj; omega
  go_enter Tryd.func69, Tryd.ntmps69
  go_wp2
  go_ret
  exact ⟨rfl, by go_grown⟩

theorem rtwo_any (n : Int) (w : World) (h0 : 0 ≤ n) (h1 : n ≤ 99) : Calls Tryd.prog 70 #[.int .i64 n] w fun e w' => e = .returned (.string (twoS n)) ∧ w' = w := by
  have e1 := enc_lt (48 + n / 10) (by omega) (by omega)
  have e0 := enc_lt (48 + n % 10) (by omega) (by omega)
  have s1 : (Utf8.encode (48 + n / 10)).size = 1 := by rw [e1]; rfl
  have s0 : (Utf8.encode (48 + n % 10)).size = 1 := by rw [e0]; rfl
  have hE : Utf8.encode (48 + n / 10) ++ Utf8.encode (48 + n % 10) = twoS n := by rw [e1, e0]; rfl
  clear e1 e0
  go_enter Tryd.func70, Tryd.ntmps70
  go_wp2
  go_ret
  exact ⟨rfl, rfl⟩

theorem twoS_size (n : Int) : (twoS n).size = 2 := rfl
theorem twoS_cut (n : Int) : (twoS n).extract 1 2 = ⟨#[d0 n]⟩ := rfl
def hourS (n : Int) : ByteArray := if n < 36000 then ⟨#[d0 (n / 3600)]⟩ else twoS (n / 3600)
theorem hourS_size (n : Int) : (hourS n).size ≤ 2 := by
  unfold hourS
  split
  · exact Nat.le_succ 1
  · exact Nat.le_refl 2
def secS (n : Int) : ByteArray := if 0 < n % 60 then ⟨#[58]⟩ ++ twoS (n % 60) else ⟨#[]⟩
/-- The text of a span of time. -/
def spanS (n : Int) : ByteArray := hourS n ++ (⟨#[58]⟩ ++ twoS (n / 60 % 60)) ++ secS n

theorem secS_size (n : Int) : (secS n).size ≤ 3 := by
  unfold secS
  split
  · exact Nat.le_refl 3
  · exact Nat.zero_le _
theorem spanS_size (n : Int) : (spanS n).size ≤ 8 := by
  unfold spanS
  have h1 := hourS_size n
  have h2 := secS_size n
  have h3 := twoS_size (n / 60 % 60)
  have h4 : (⟨#[58]⟩ : ByteArray).size = 1 := rfl
  simp only [ByteArray.size_append]
  omega

theorem spanText_any (n : Int) (w : World) (h0 : 0 ≤ n) (h1 : n ≤ 93600) : Calls Tryd.prog 47 #[.int .i64 n] w fun e w' => e = .returned (.string (spanS n)) ∧ Below w.heap.size w w' := by
  have s1 := twoS_size (n / 3600)
  have s2 := twoS_size (n / 60 % 60)
  have s3 := twoS_size (n % 60)
  have c1 := twoS_cut (n / 3600)
  by_cases hn : n < 36000
  · by_cases hs : 0 < n % 60
    · rw [show spanS n = (⟨#[d0 (n / 3600)]⟩ ++ (⟨#[58]⟩ ++ twoS (n / 60 % 60))) ++ (⟨#[58]⟩ ++ twoS (n % 60)) by simp [spanS, hourS, secS, hn, hs]]
      go_enter Tryd.func47, Tryd.ntmps47
      go_wp2_with (go_at_call 69; ((with_reducible refine (two_any _ _ (by omega) (by omega)).mono ?_); rintro e w1 ⟨rfl, hb⟩; (first | (replace hL := bstep hL hb) | (have hL := hb)); clear hb; replace hc := bcell hL))
      go_ret
      exact ⟨rfl, (by have hB := bstep (w := w) (by go_grown) hL; have hs := hB.size; go_grown)⟩
    · rw [show spanS n = (⟨#[d0 (n / 3600)]⟩ ++ (⟨#[58]⟩ ++ twoS (n / 60 % 60))) by rw [spanS, hourS, secS, if_pos hn, if_neg hs]; exact ByteArray.append_empty]
      go_enter Tryd.func47, Tryd.ntmps47
      go_wp2_with (go_at_call 69; ((with_reducible refine (two_any _ _ (by omega) (by omega)).mono ?_); rintro e w1 ⟨rfl, hb⟩; (first | (replace hL := bstep hL hb) | (have hL := hb)); clear hb; replace hc := bcell hL))
      go_ret
      exact ⟨rfl, (by have hB := bstep (w := w) (by go_grown) hL; have hs := hB.size; go_grown)⟩
  · by_cases hs : 0 < n % 60
    · rw [show spanS n = (twoS (n / 3600) ++ (⟨#[58]⟩ ++ twoS (n / 60 % 60))) ++ (⟨#[58]⟩ ++ twoS (n % 60)) by simp [spanS, hourS, secS, hn, hs]]
      go_enter Tryd.func47, Tryd.ntmps47
      go_wp2_with (go_at_call 69; ((with_reducible refine (two_any _ _ (by omega) (by omega)).mono ?_); rintro e w1 ⟨rfl, hb⟩; (first | (replace hL := bstep hL hb) | (have hL := hb)); clear hb; replace hc := bcell hL))
      go_ret
      exact ⟨rfl, (by have hB := bstep (w := w) (by go_grown) hL; have hs := hB.size; go_grown)⟩
    · rw [show spanS n = (twoS (n / 3600) ++ (⟨#[58]⟩ ++ twoS (n / 60 % 60))) by rw [spanS, hourS, secS, if_neg hn, if_neg hs]; exact ByteArray.append_empty]
      go_enter Tryd.func47, Tryd.ntmps47
      go_wp2_with (go_at_call 69; ((with_reducible refine (two_any _ _ (by omega) (by omega)).mono ?_); rintro e w1 ⟨rfl, hb⟩; (first | (replace hL := bstep hL hb) | (have hL := hb)); clear hb; replace hc := bcell hL))
      go_ret
      exact ⟨rfl, (by have hB := bstep (w := w) (by go_grown) hL; have hs := hB.size; go_grown)⟩

theorem rspanText_any (n : Int) (w : World) (h0 : 0 ≤ n) (h1 : n ≤ 93600) : Calls Tryd.prog 48 #[.int .i64 n] w fun e w' => e = .returned (.string (spanS n)) ∧ w' = w := by
  have s1 := twoS_size (n / 3600)
  have s2 := twoS_size (n / 60 % 60)
  have s3 := twoS_size (n % 60)
  have c1 := twoS_cut (n / 3600)
  by_cases hn : n < 36000
  · have hn' : n / 3600 < 10 := by omega
    by_cases hs : 0 < n % 60
    · rw [show spanS n = ((⟨#[d0 (n / 3600)]⟩ ++ ⟨#[58]⟩) ++ twoS (n / 60 % 60)) ++ ⟨#[58]⟩ ++ twoS (n % 60) by simp [spanS, hourS, secS, hn, hs, ByteArray.append_assoc]]
      go_enter Tryd.func48, Tryd.ntmps48
      go_wp2_with (go_at_call 70; ((with_reducible refine (rtwo_any _ _ (by omega) (by omega)).mono ?_); rintro e w1 ⟨rfl, rfl⟩))
      go_ret
      exact ⟨rfl, rfl⟩
    · rw [show spanS n = ((⟨#[d0 (n / 3600)]⟩ ++ ⟨#[58]⟩) ++ twoS (n / 60 % 60)) by rw [spanS, hourS, secS, if_pos hn, if_neg hs]; exact (ByteArray.append_empty).trans ByteArray.append_assoc.symm]
      go_enter Tryd.func48, Tryd.ntmps48
      go_wp2_with (go_at_call 70; ((with_reducible refine (rtwo_any _ _ (by omega) (by omega)).mono ?_); rintro e w1 ⟨rfl, rfl⟩))
      go_ret
      exact ⟨rfl, rfl⟩
  · have hn' : ¬ n / 3600 < 10 := by omega
    by_cases hs : 0 < n % 60
    · rw [show spanS n = ((twoS (n / 3600) ++ ⟨#[58]⟩) ++ twoS (n / 60 % 60)) ++ ⟨#[58]⟩ ++ twoS (n % 60) by simp [spanS, hourS, secS, hn, hs, ByteArray.append_assoc]]
      go_enter Tryd.func48, Tryd.ntmps48
      go_wp2_with (go_at_call 70; ((with_reducible refine (rtwo_any _ _ (by omega) (by omega)).mono ?_); rintro e w1 ⟨rfl, rfl⟩))
      go_ret
      exact ⟨rfl, rfl⟩
    · rw [show spanS n = ((twoS (n / 3600) ++ ⟨#[58]⟩) ++ twoS (n / 60 % 60)) by rw [spanS, hourS, secS, if_neg hn, if_neg hs]; exact (ByteArray.append_empty).trans ByteArray.append_assoc.symm]
      go_enter Tryd.func48, Tryd.ntmps48
      go_wp2_with (go_at_call 70; ((with_reducible refine (rtwo_any _ _ (by omega) (by omega)).mono ?_); rintro e w1 ⟨rfl, rfl⟩))
      go_ret
      exact ⟨rfl, rfl⟩

/-- The text of an offset. -/
def offS (n : Int) : ByteArray := if n < -93600 ∨ 93600 < n then ⟨#[]⟩ else if n < 0 then ⟨#[45]⟩ ++ spanS (-n) else spanS n

theorem offText_any (n : Int) (w : World) : Calls Tryd.prog 14 #[.int .i64 n] w fun e w' => e = .returned (.string (offS n)) ∧ Below w.heap.size w w' := by
  by_cases h1 : n < -93600
  · rw [show offS n = ⟨#[]⟩ by unfold offS; rw [if_pos (.inl h1)]]
    go_enter Tryd.func14, Tryd.ntmps14
    go_wp2
    go_ret
    exact ⟨rfl, by go_grown⟩
  by_cases h2 : 93600 < n
  · rw [show offS n = ⟨#[]⟩ by unfold offS; rw [if_pos (.inr h2)]]
    go_enter Tryd.func14, Tryd.ntmps14
    go_wp2
    go_ret
    exact ⟨rfl, by go_grown⟩
  by_cases h3 : n < 0
  · rw [show offS n = ⟨#[45]⟩ ++ spanS (-n) by unfold offS; rw [if_neg (by omega), if_pos h3]]
    have sz := spanS_size (-n)
    go_enter Tryd.func14, Tryd.ntmps14
    go_wp2_with (go_at_call 47; ((with_reducible refine (spanText_any _ _ (by omega) (by omega)).mono ?_); rintro e w1 ⟨rfl, hb⟩; (first | (replace hL := bstep hL hb) | (have hL := hb)); clear hb; replace hc := bcell hL))
    go_ret
    exact ⟨rfl, (by have hB := bstep (w := w) (by go_grown) hL; have hs := hB.size; go_grown)⟩
  · rw [show offS n = spanS n by unfold offS; rw [if_neg (by omega), if_neg h3]]
    go_enter Tryd.func14, Tryd.ntmps14
    go_wp2_with (go_at_call 47; ((with_reducible refine (spanText_any _ _ (by omega) (by omega)).mono ?_); rintro e w1 ⟨rfl, hb⟩; (first | (replace hL := bstep hL hb) | (have hL := hb)); clear hb; replace hc := bcell hL))
    go_ret
    exact ⟨rfl, (by have hB := bstep (w := w) (by go_grown) hL; have hs := hB.size; go_grown)⟩

theorem roffText_any (n : Int) (w : World) : Calls Tryd.prog 15 #[.int .i64 n] w fun e w' => e = .returned (.string (offS n)) ∧ w' = w := by
  by_cases h1 : n < -93600
  · rw [show offS n = ⟨#[]⟩ by unfold offS; rw [if_pos (.inl h1)]]
    go_enter Tryd.func15, Tryd.ntmps15
    go_wp2
    go_ret
    exact ⟨rfl, rfl⟩
  by_cases h2 : 93600 < n
  · rw [show offS n = ⟨#[]⟩ by unfold offS; rw [if_pos (.inr h2)]]
    go_enter Tryd.func15, Tryd.ntmps15
    go_wp2
    go_ret
    exact ⟨rfl, rfl⟩
  by_cases h3 : n < 0
  · rw [show offS n = ⟨#[45]⟩ ++ spanS (-n) by unfold offS; rw [if_neg (by omega), if_pos h3]]
    have sz := spanS_size (-n)
    go_enter Tryd.func15, Tryd.ntmps15
    go_wp2_with (go_at_call 48; ((with_reducible refine (rspanText_any _ _ (by omega) (by omega)).mono ?_); rintro e w1 ⟨rfl, rfl⟩))
    go_ret
    exact ⟨rfl, rfl⟩
  · rw [show offS n = spanS n by unfold offS; rw [if_neg (by omega), if_neg h3]]
    go_enter Tryd.func15, Tryd.ntmps15
    go_wp2_with (go_at_call 48; ((with_reducible refine (rspanText_any _ _ (by omega) (by omega)).mono ?_); rintro e w1 ⟨rfl, rfl⟩))
    go_ret
    exact ⟨rfl, rfl⟩
end Go.Proofs.YtcpfbemmlmdcaaaDoor.Lx
