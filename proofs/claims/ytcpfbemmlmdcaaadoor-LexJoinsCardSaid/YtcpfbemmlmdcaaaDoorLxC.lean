/-
  The walks of layer 18's Clock, of the program civiltime.
-/
import Derived.Test.YtcpfbemmlmdcaaaDoorLxO
set_option linter.unusedSimpArgs false
set_option linter.unusedVariables false
namespace Go.Proofs.YtcpfbemmlmdcaaaDoor.Lx
open Go.RowKit Go.ChangeShapes Go.WideShapes Go.Proofs.YtcpfbemmlmdcaaaDoor.Sl

/-- The place of a clock's letter. -/
def wsu (c : UInt8) : Int := Lib.indexByte [119, 115, 117] c
theorem wsu_any (c : UInt8) (w : World) : Calls Tryd.prog 49 #[.string ⟨#[119, 115, 117]⟩, .int .u8 c.toNat] w fun e w' => e = .returned (.int .i64 (wsu c)) ∧ w = w' := by
  refine (Tryd.strings_IndexByte ⟨#[119, 115, 117]⟩ c.toNat w).mono ?_
  rintro e w' ⟨rfl, rfl⟩
  refine ⟨?_, rfl⟩
  have : ((c.toNat : Int)).toNat.toUInt8 = c := by
    rw [Int.toNat_natCast]; exact UInt8.ofNat_toNat
  rw [this]
  rfl
theorem wsu_is (c : UInt8) (k : Int) (w : World) (h : wsu c = k) : Calls Tryd.prog 49 #[.string ⟨#[119, 115, 117]⟩, .int .u8 c.toNat] w fun e w' => e = .returned (.int .i64 k) ∧ w = w' := by
  subst h; exact wsu_any c w
theorem wsu_cases (c : UInt8) : wsu c = -1 ∨ wsu c = 0 ∨ wsu c = 1 ∨ wsu c = 2 := by
  unfold wsu Lib.indexByte Lib.indexByte Lib.indexByte Lib.indexByte
  repeat' split
  all_goals simp_all

/-- The clock and the span's text of a clock time. -/
def clkC (s : ByteArray) (c : UInt8) : Int := if wsu c = -1 then 1 else wsu c + 1
def clkT (s : ByteArray) (c : UInt8) : ByteArray := if wsu c = -1 then s else s.extract 0 (s.size - 1)
def clkR (cl : Int) (o : Option Int) : Int × Int × Int := match o with
  | none => (0, 0, 3)
  | some n => if 93600 < n then (0, 0, 2) else (n, cl, 0)
/-- The seconds and the clock that a text stands for, and the error's number. -/
def clkZ (s : ByteArray) : Int × Int × Int := match s.data.toList.getLast? with
  | none => (0, 0, 3)
  | some c => clkR (clkC s c) (spanZ (clkT s c))
def tripV (p : Int × Int × Int) : Value := .tuple #[.int .i64 p.1, .int .i64 p.2.1, .int .i64 p.2.2]
theorem span_nil : spanZ ⟨#[]⟩ = none := by decide

theorem ext_size (s : ByteArray) : (s.extract 0 (s.size - 1)).size ≤ s.size := by rw [ByteArray.size_extract]; omega

set_option maxRecDepth 20000 in
theorem clock_nil (s : ByteArray) (hz : s = ⟨#[]⟩) (m : Int) (w : World) (hm : w.cell? ⟨0, 0, none⟩ = some (.int .i64 m)) :
    Calls Tryd.prog 16 #[.string s] w fun e w' => e = .returned (tripV (0, 0, 3)) ∧ Below w.heap.size w w' := by
  subst hz
  go_enter Tryd.func16, Tryd.ntmps16
  go_wp2_with (go_at_call 45; ((with_reducible refine (span_none ⟨#[]⟩ m _ (by decide) hm span_nil).mono ?_); rintro e w1 ⟨rfl, hb⟩; (first | (replace hL := bstep hL hb) | (have hL := hb)); clear hb; replace hc := bcell hL))
  go_ret3
  exact ⟨rfl, (by have hB := bstep (w := w) (by go_grown) hL; have hs := hB.size; go_grown)⟩

theorem last_of (s : ByteArray) (c : UInt8) (h : s.data.toList.getLast? = some c) : 0 < s.size ∧ s.toList.isEmpty = false ∧ ∀ (hh : s.size - 1 < s.size), s[s.size - 1] = c := by
  rw [List.getLast?_eq_getElem?] at h
  obtain ⟨hl, he⟩ := List.getElem?_eq_some_iff.1 h
  have hl' : s.size - 1 < s.size := by
    have e : s.data.toList.length = s.size := Array.length_toList
    omega
  refine ⟨by omega, ?_, fun hh => ?_⟩
  · rw [ByteArray.toList_eq]
    cases hd : s.data.toList with
    | nil => rw [hd] at hl; simp at hl
    | cons _ _ => rfl
  · rw [← he]
    have e : s.data.toList.length = s.size := Array.length_toList
    simp only [e]
    rfl

set_option maxRecDepth 20000 in
theorem clock_none (s : ByteArray) (c : UInt8) (k : Nat) (hc3 : k ≤ 3) (hk : wsu c = (k : Int) - 1) (hL0 : s.data.toList.getLast? = some c) (m : Int) (w : World) (hs : s.size < 4294967281) (hm : w.cell? ⟨0, 0, none⟩ = some (.int .i64 m))
    (t : ByteArray) (ht : t = if k = 0 then s else s.extract 0 (s.size - 1)) (hz : spanZ t = none) :
    Calls Tryd.prog 16 #[.string s] w fun e w' => e = .returned (tripV (0, 0, 3)) ∧ Below w.heap.size w w' := by
  obtain ⟨hs0, hE, hg⟩ := last_of s c hL0
  replace hg := hg (by omega)
  have hts : t.size < 4294967281 := by rw [ht]; split; exact hs; have := ext_size s; omega
  clear hL0
  have h4 : k = 0 ∨ k = 1 ∨ k = 2 ∨ k = 3 := by omega
  rcases h4 with rfl | rfl | rfl | rfl
  · have HK := hk
    subst ht
    go_enter Tryd.func16, Tryd.ntmps16
    go_wp2_with (first | (go_at_call 49; ((with_reducible refine (wsu_is c _ _ HK).mono ?_); rintro e w1 ⟨rfl, rfl⟩)) | (go_at_call 45; ((with_reducible refine (span_none _ m _ hts hm hz).mono ?_); rintro e w1 ⟨rfl, hb⟩; (first | (replace hL := bstep hL hb) | (have hL := hb)); clear hb; replace hc := bcell hL)))
    go_ret3
    exact ⟨rfl, (by have hB := bstep (w := w) (by go_grown) hL; have hs := hB.size; go_grown)⟩
  all_goals
    have HK := hk
    have ht2 : s.extract 0 (s.size - 1) = t := by rw [ht]; rfl
    clear ht
    go_enter Tryd.func16, Tryd.ntmps16
    go_wp2_with (first | (go_at_call 49; ((with_reducible refine (wsu_is c _ _ HK).mono ?_); rintro e w1 ⟨rfl, rfl⟩)))
    go_region
    go_wp2_with (first | (go_at_call 45; ((with_reducible refine (span_none _ m _ hts (cell_kept hm (by go_grown)) hz).mono ?_); rintro e w1 ⟨rfl, hb⟩; (first | (replace hL := bstep hL hb) | (have hL := hb)); clear hb; replace hc := bcell hL)))
    go_ret3
    exact ⟨rfl, (by have hB := bstep (w := w) (by go_grown) hL; have hs := hB.size; go_grown)⟩

set_option maxRecDepth 20000 in
theorem clock_big (s : ByteArray) (c : UInt8) (k : Nat) (hc3 : k ≤ 3) (hk : wsu c = (k : Int) - 1) (hL0 : s.data.toList.getLast? = some c) (m : Int) (w : World) (hs : s.size < 4294967281) (hm : w.cell? ⟨0, 0, none⟩ = some (.int .i64 m))
    (t : ByteArray) (ht : t = if k = 0 then s else s.extract 0 (s.size - 1)) (n : Int) (hz : spanZ t = some n) (hn : 93600 < n) :
    Calls Tryd.prog 16 #[.string s] w fun e w' => e = .returned (tripV (0, 0, 2)) ∧ Below w.heap.size w w' := by
  obtain ⟨hs0, hE, hg⟩ := last_of s c hL0
  replace hg := hg (by omega)
  have hts : t.size < 4294967281 := by rw [ht]; split; exact hs; have := ext_size s; omega
  have hb := spanZ_bd _ _ hz
  clear hL0
  have h4 : k = 0 ∨ k = 1 ∨ k = 2 ∨ k = 3 := by omega
  rcases h4 with rfl | rfl | rfl | rfl
  · have HK := hk
    subst ht
    go_enter Tryd.func16, Tryd.ntmps16
    go_wp2_with (first | (go_at_call 49; ((with_reducible refine (wsu_is c _ _ HK).mono ?_); rintro e w1 ⟨rfl, rfl⟩)) | (go_at_call 45; ((with_reducible refine (span_some _ n m _ hts hm hz).mono ?_); rintro e w1 ⟨rfl, hb⟩; (first | (replace hL := bstep hL hb) | (have hL := hb)); clear hb; replace hc := bcell hL)))
    go_ret3
    exact ⟨rfl, (by have hB := bstep (w := w) (by go_grown) hL; have hs := hB.size; go_grown)⟩
  all_goals
    have HK := hk
    have ht2 : s.extract 0 (s.size - 1) = t := by rw [ht]; rfl
    clear ht
    go_enter Tryd.func16, Tryd.ntmps16
    go_wp2_with (first | (go_at_call 49; ((with_reducible refine (wsu_is c _ _ HK).mono ?_); rintro e w1 ⟨rfl, rfl⟩)))
    go_region
    go_wp2_with (first | (go_at_call 45; ((with_reducible refine (span_some _ n m _ hts (cell_kept hm (by go_grown)) hz).mono ?_); rintro e w1 ⟨rfl, hb⟩; (first | (replace hL := bstep hL hb) | (have hL := hb)); clear hb; replace hc := bcell hL)))
    go_ret3
    exact ⟨rfl, (by have hB := bstep (w := w) (by go_grown) hL; have hs := hB.size; go_grown)⟩

set_option maxRecDepth 20000 in
theorem clock_ok (s : ByteArray) (c : UInt8) (k : Nat) (hc3 : k ≤ 3) (hk : wsu c = (k : Int) - 1) (hL0 : s.data.toList.getLast? = some c) (m : Int) (w : World) (hs : s.size < 4294967281) (hm : w.cell? ⟨0, 0, none⟩ = some (.int .i64 m))
    (t : ByteArray) (ht : t = if k = 0 then s else s.extract 0 (s.size - 1)) (n : Int) (hz : spanZ t = some n) (hn : ¬ 93600 < n) :
    Calls Tryd.prog 16 #[.string s] w fun e w' => e = .returned (tripV (n, (if k = 0 then 1 else (k : Int)), 0)) ∧ Below w.heap.size w w' := by
  obtain ⟨hs0, hE, hg⟩ := last_of s c hL0
  replace hg := hg (by omega)
  have hts : t.size < 4294967281 := by rw [ht]; split; exact hs; have := ext_size s; omega
  have hb := spanZ_bd _ _ hz
  clear hL0
  have h4 : k = 0 ∨ k = 1 ∨ k = 2 ∨ k = 3 := by omega
  rcases h4 with rfl | rfl | rfl | rfl
  · have HK := hk
    subst ht
    go_enter Tryd.func16, Tryd.ntmps16
    go_wp2_with (first | (go_at_call 49; ((with_reducible refine (wsu_is c _ _ HK).mono ?_); rintro e w1 ⟨rfl, rfl⟩)) | (go_at_call 45; ((with_reducible refine (span_some _ n m _ hts hm hz).mono ?_); rintro e w1 ⟨rfl, hb⟩; (first | (replace hL := bstep hL hb) | (have hL := hb)); clear hb; replace hc := bcell hL)))
    go_ret3
    exact ⟨rfl, (by have hB := bstep (w := w) (by go_grown) hL; have hs := hB.size; go_grown)⟩
  all_goals
    have HK := hk
    have ht2 : s.extract 0 (s.size - 1) = t := by rw [ht]; rfl
    clear ht
    go_enter Tryd.func16, Tryd.ntmps16
    go_wp2_with (first | (go_at_call 49; ((with_reducible refine (wsu_is c _ _ HK).mono ?_); rintro e w1 ⟨rfl, rfl⟩)))
    go_region
    go_wp2_with (first | (go_at_call 45; ((with_reducible refine (span_some _ n m _ hts (cell_kept hm (by go_grown)) hz).mono ?_); rintro e w1 ⟨rfl, hb⟩; (first | (replace hL := bstep hL hb) | (have hL := hb)); clear hb; replace hc := bcell hL)))
    go_ret3
    exact ⟨rfl, (by have hB := bstep (w := w) (by go_grown) hL; have hs := hB.size; go_grown)⟩


theorem wsu_nat (c : UInt8) : ∃ k : Nat, k ≤ 3 ∧ wsu c = (k : Int) - 1 := by
  rcases wsu_cases c with h | h | h | h
  · exact ⟨0, by omega, h⟩
  · exact ⟨1, by omega, h⟩
  · exact ⟨2, by omega, h⟩
  · exact ⟨3, by omega, h⟩

theorem clock_any (s : ByteArray) (m : Int) (w : World) (hs : s.size < 4294967281) (hm : w.cell? ⟨0, 0, none⟩ = some (.int .i64 m)) :
    Calls Tryd.prog 16 #[.string s] w fun e w' => e = .returned (tripV (clkZ s)) ∧ Below w.heap.size w w' := by
  unfold clkZ
  cases hl : s.data.toList.getLast? with
  | none =>
    refine clock_nil s ?_ m w hm
    obtain ⟨⟨l⟩⟩ := s
    rw [List.getLast?_eq_none_iff] at hl
    have : l = [] := hl
    rw [this]
  | some c =>
    obtain ⟨k, hk3, hk⟩ := wsu_nat c
    have ht : clkT s c = if k = 0 then s else s.extract 0 (s.size - 1) := by
      unfold clkT
      rw [hk]
      by_cases h0 : k = 0
      · rw [if_pos (by omega), if_pos h0]
      · rw [if_neg (by omega), if_neg h0]
    have hC : clkC s c = if k = 0 then 1 else (k : Int) := by
      unfold clkC
      rw [hk]
      by_cases h0 : k = 0
      · rw [if_pos (by omega), if_pos h0]
      · rw [if_neg (by omega), if_neg h0]; omega
    show Calls _ _ _ _ fun e w' => e = .returned (tripV (clkR (clkC s c) (spanZ (clkT s c)))) ∧ Below w.heap.size w w'
    cases hz : spanZ (clkT s c) with
    | none => exact clock_none s c k hk3 hk hl m w hs hm _ ht hz
    | some n =>
      by_cases hn : 93600 < n
      · rw [show clkR (clkC s c) (some n) = (0, 0, 2) by simp [clkR, hn]]
        exact clock_big s c k hk3 hk hl m w hs hm _ ht n hz hn
      · rw [show clkR (clkC s c) (some n) = (n, clkC s c, 0) by simp [clkR, hn], hC]
        exact clock_ok s c k hk3 hk hl m w hs hm _ ht n hz hn
end Go.Proofs.YtcpfbemmlmdcaaaDoor.Lx
