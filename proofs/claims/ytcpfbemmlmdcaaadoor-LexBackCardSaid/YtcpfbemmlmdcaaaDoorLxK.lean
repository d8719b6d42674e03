/-
  The walks of layer 18's ClockText, and of the reference's Clock and ClockText, of the program civiltime.
-/
import Derived.WideMake
import Derived.MapKept
import Derived.Test.YtcpfbemmlmdcaaaDoorLxT
import Derived.Test.YtcpfbemmlmdcaaaDoorLxC
set_option linter.unusedSimpArgs false
set_option linter.unusedVariables false
namespace Go.Proofs.YtcpfbemmlmdcaaaDoor.Lx
open Go.RowKit Go.ChangeShapes Go.WideShapes Go.Proofs.YtcpfbemmlmdcaaaDoor.Sl

def ent (k : Int) (v : ByteArray) (b : Nat) : MapEntry := { key := .int .i64 k, val := .string v, born := b }
theorem upd_int (w : World) (r clock : Nat) (es : Array MapEntry) (k : Int) (v : ByteArray) (hb : w.heap[r]? = some (.map es clock)) (hf : Instr.findNow (.int .i64) (.int .i64 k) es.toList 0 = some none) :
    (Instr.mapUpdate 68 (.map (some r)) (.int .i64 k) (.string v)).run Tryd.prog w = .ok () { w with heap := w.heap.setIfInBounds r (.map (es.push (ent k v clock)) (clock + 1)) } := by
  have hm : Tryd.prog.underlying 68 = some (.map 3 9) := by kernel_rfl
  have hk : Tryd.prog.underlying 3 = some (.int .i64) := by kernel_rfl
  have hc : (Instr.checkKey false 10000 3 (.int .i64 k)).run Tryd.prog w = .ok () w := MapKept.run_checkKey (k := .int .i64 k) hk (by simp [MapKept.IsKey]) false 9999
  simp [Instr.mapUpdate, run_underlying hm, MapKept.run_getObj_map hb, hc, MapKept.run_findKey hk hf, MapKept.run_setObj_map _ hb, Result.andThen, ent]
theorem push_set (h : Array Obj) (o o' : Obj) : (h.push o).setIfInBounds h.size o' = h.push o' := by
  apply Array.ext_getElem?
  intro i
  by_cases hi : i = h.size
  · subst hi; simp
  · rw [Array.getElem?_setIfInBounds, if_neg (fun e => hi e.symm), Array.getElem?_push, Array.getElem?_push, if_neg hi, if_neg hi]
theorem alloc_put (w : World) (o o' : Obj) : ({ (w.alloc o) with heap := (w.alloc o).heap.setIfInBounds w.heap.size o' } : World) = w.alloc o' := by
  show ({ w with heap := (w.heap.push o).setIfInBounds w.heap.size o' } : World) = { w with heap := w.heap.push o' }
  rw [push_set]
theorem alloc_at (w : World) (o : Obj) : (w.alloc o).heap[w.heap.size]? = some o := Go.heap_alloc_new w o
def M0 : Obj := .map #[] 0
def M1 : Obj := .map #[ent 1 ⟨#[]⟩ 0] 1
def M2 : Obj := .map #[ent 1 ⟨#[]⟩ 0, ent 2 ⟨#[115]⟩ 1] 2
def M3 : Obj := .map #[ent 1 ⟨#[]⟩ 0, ent 2 ⟨#[115]⟩ 1, ent 3 ⟨#[117]⟩ 2] 3
theorem ins1 (w : World) : (Instr.mapUpdate 68 (.map (some w.heap.size)) (.int .i64 1) (.string ⟨#[]⟩)).run Tryd.prog (w.alloc (.map #[] 0)) = .ok () (w.alloc M1) := by
  rw [upd_int (w.alloc (.map #[] 0)) w.heap.size 0 #[] 1 ⟨#[]⟩ (alloc_at w _) rfl, alloc_put]; rfl
theorem ins2 (w : World) : (Instr.mapUpdate 68 (.map (some w.heap.size)) (.int .i64 2) (.string ⟨#[115]⟩)).run Tryd.prog (w.alloc M1) = .ok () (w.alloc M2) := by
  rw [upd_int (w.alloc M1) w.heap.size 1 _ 2 ⟨#[115]⟩ (alloc_at w _) rfl, alloc_put]; rfl
theorem ins3 (w : World) : (Instr.mapUpdate 68 (.map (some w.heap.size)) (.int .i64 3) (.string ⟨#[117]⟩)).run Tryd.prog (w.alloc M2) = .ok () (w.alloc M3) := by
  rw [upd_int (w.alloc M2) w.heap.size 2 _ 3 ⟨#[117]⟩ (alloc_at w _) rfl, alloc_put]; rfl
/-- The letter of a clock, if there is one. -/
def clkL (c : Int) : Option ByteArray := if c = 1 then some ⟨#[]⟩ else if c = 2 then some ⟨#[115]⟩ else if c = 3 then some ⟨#[117]⟩ else none
theorem look3 (w : World) (c : Int) : (Instr.lookup 68 (.map (some w.heap.size)) (.int .i64 c) true).run Tryd.prog (w.alloc M3) = .ok (.tuple #[.string ((clkL c).getD ⟨#[]⟩), .bool (clkL c).isSome]) (w.alloc M3) := by
  have hm : Tryd.prog.underlying 68 = some (.map 3 9) := by kernel_rfl
  have hk : Tryd.prog.underlying 3 = some (.int .i64) := by kernel_rfl
  have hc : (Instr.checkKey false 10000 3 (.int .i64 c)).run Tryd.prog (w.alloc M3) = .ok () (w.alloc M3) := MapKept.run_checkKey (k := .int .i64 c) hk (by simp [MapKept.IsKey]) false 9999
  have hg : (getObj w.heap.size).run Tryd.prog (w.alloc M3) = .ok (.map #[ent 1 ⟨#[]⟩ 0, ent 2 ⟨#[115]⟩ 1, ent 3 ⟨#[117]⟩ 2] 3) (w.alloc M3) := MapKept.run_getObj_map (alloc_at w _)
  have hz : (zeroValue 9).run Tryd.prog (w.alloc M3) = .ok (.string ⟨#[]⟩) (w.alloc M3) := by kernel_rfl
  by_cases h1 : c = 1
  · subst h1
    have hf : (Instr.findKey 3 (.int .i64 1) [ent 1 ⟨#[]⟩ 0, ent 2 ⟨#[115]⟩ 1, ent 3 ⟨#[117]⟩ 2]).run Tryd.prog (w.alloc M3) = .ok (some (0, .string ⟨#[]⟩)) (w.alloc M3) := MapKept.run_findKey hk rfl
    simp [Instr.lookup, run_underlying hm, hg, hc, hf, Result.andThen, clkL]
  by_cases h2 : c = 2
  · subst h2
    have hf : (Instr.findKey 3 (.int .i64 2) [ent 1 ⟨#[]⟩ 0, ent 2 ⟨#[115]⟩ 1, ent 3 ⟨#[117]⟩ 2]).run Tryd.prog (w.alloc M3) = .ok (some (1, .string ⟨#[115]⟩)) (w.alloc M3) := MapKept.run_findKey hk rfl
    simp [Instr.lookup, run_underlying hm, hg, hc, hf, Result.andThen, clkL]
  by_cases h3 : c = 3
  · subst h3
    have hf : (Instr.findKey 3 (.int .i64 3) [ent 1 ⟨#[]⟩ 0, ent 2 ⟨#[115]⟩ 1, ent 3 ⟨#[117]⟩ 2]).run Tryd.prog (w.alloc M3) = .ok (some (2, .string ⟨#[117]⟩)) (w.alloc M3) := MapKept.run_findKey hk rfl
    simp [Instr.lookup, run_underlying hm, hg, hc, hf, Result.andThen, clkL]
  · have e1 : (c == 1) = false := by simp [h1]
    have e2 : (c == 2) = false := by simp [h2]
    have e3 : (c == 3) = false := by simp [h3]
    have hn : Instr.findNow (.int .i64) (.int .i64 c) [ent 1 ⟨#[]⟩ 0, ent 2 ⟨#[115]⟩ 1, ent 3 ⟨#[117]⟩ 2] 0 = some none := by
      simp [Instr.findNow, Instr.sameNow, ent, e1, e2, e3]
    have hf : (Instr.findKey 3 (.int .i64 c) [ent 1 ⟨#[]⟩ 0, ent 2 ⟨#[115]⟩ 1, ent 3 ⟨#[117]⟩ 2]).run Tryd.prog (w.alloc M3) = .ok none (w.alloc M3) := MapKept.run_findKey hk hn
    simp [Instr.lookup, run_underlying hm, hg, hc, hf, hz, Result.andThen, clkL, h1, h2, h3]

def clkS (n c : Int) : ByteArray := match clkL c with
  | none => ⟨#[]⟩
  | some l => if n < 0 ∨ 93600 < n then ⟨#[]⟩ else spanS n ++ l

set_option maxRecDepth 20000 in
theorem clockText_any (n c : Int) (w : World) : Calls Tryd.prog 18 #[.int .i64 n, .int .i64 c] w fun e w' => e = .returned (.string (clkS n c)) ∧ Below w.heap.size w w' := by
  have hmm := @run_makeMap Tryd.prog
  have i1 := ins1 w
  have i2 := ins2 w
  have i3 := ins3 w
  have i4 := look3 w c
  have hB : Below w.heap.size w (w.alloc M3) := (Below.refl _ _).alloc (Nat.le_refl _) _
  cases hl : clkL c with
  | none =>
    rw [hl] at i4
    rw [show clkS n c = ⟨#[]⟩ by simp [clkS, hl]]
    simp only [Option.getD_none, Option.isSome_none] at i4
    go_enter Tryd.func18, Tryd.ntmps18
    go_wp2
    go_ret
    exact ⟨rfl, hB⟩
  | some l =>
    rw [hl] at i4
    simp only [Option.getD_some, Option.isSome_some] at i4
    by_cases h0 : n < 0
    · rw [show clkS n c = ⟨#[]⟩ by simp [clkS, hl, h0]]
      go_enter Tryd.func18, Tryd.ntmps18
      go_wp2
      go_ret
      exact ⟨rfl, hB⟩
    by_cases h1 : 93600 < n
    · rw [show clkS n c = ⟨#[]⟩ by simp [clkS, hl, h1]]
      go_enter Tryd.func18, Tryd.ntmps18
      go_wp2
      go_ret
      exact ⟨rfl, hB⟩
    · rw [show clkS n c = spanS n ++ l by simp [clkS, hl, h1, h0]]
      have hs := spanS_size n
      have hls : l.size ≤ 1 := by
        unfold clkL at hl
        split at hl
        · cases hl; decide
        · split at hl
          · cases hl; decide
          · split at hl
            · cases hl; decide
            · cases hl
      go_enter Tryd.func18, Tryd.ntmps18
      go_wp2_with (go_at_call 47; ((with_reducible refine (spanText_any _ _ (by omega) (by omega)).mono ?_); rintro e w1 ⟨rfl, hb⟩; (first | (replace hL := bstep hL hb) | (have hL := hb)); clear hb; replace hc := bcell hL))
      go_ret
      exact ⟨rfl, bstep hB hL⟩

set_option maxRecDepth 20000 in
theorem rclockText_any (n c : Int) (w : World) : Calls Tryd.prog 19 #[.int .i64 n, .int .i64 c] w fun e w' => e = .returned (.string (clkS n c)) ∧ w' = w := by
  by_cases h0 : n < 0
  · rw [show clkS n c = ⟨#[]⟩ by unfold clkS; split <;> simp [h0]]
    go_enter Tryd.func19, Tryd.ntmps19
    go_wp2
    go_ret
    exact ⟨rfl, rfl⟩
  by_cases h1 : 93600 < n
  · rw [show clkS n c = ⟨#[]⟩ by unfold clkS; split <;> simp [h1]]
    go_enter Tryd.func19, Tryd.ntmps19
    go_wp2
    go_ret
    exact ⟨rfl, rfl⟩
  have hs := spanS_size n
  by_cases c1 : c = 1
  · subst c1
    rw [show clkS n 1 = spanS n by simp [clkS, clkL, h0, h1]; exact ByteArray.append_empty]
    go_enter Tryd.func19, Tryd.ntmps19
    go_wp2_with (go_at_call 48; ((with_reducible refine (rspanText_any _ _ (by omega) (by omega)).mono ?_); rintro e w1 ⟨rfl, rfl⟩))
    go_ret
    exact ⟨rfl, rfl⟩
  by_cases c2 : c = 2
  · subst c2
    rw [show clkS n 2 = spanS n ++ ⟨#[115]⟩ by simp [clkS, clkL, h0, h1]]
    go_enter Tryd.func19, Tryd.ntmps19
    go_wp2_with (go_at_call 48; ((with_reducible refine (rspanText_any _ _ (by omega) (by omega)).mono ?_); rintro e w1 ⟨rfl, rfl⟩))
    go_ret
    exact ⟨rfl, rfl⟩
  by_cases c3 : c = 3
  · subst c3
    rw [show clkS n 3 = spanS n ++ ⟨#[117]⟩ by simp [clkS, clkL, h0, h1]]
    go_enter Tryd.func19, Tryd.ntmps19
    go_wp2_with (go_at_call 48; ((with_reducible refine (rspanText_any _ _ (by omega) (by omega)).mono ?_); rintro e w1 ⟨rfl, rfl⟩))
    go_ret
    exact ⟨rfl, rfl⟩
  · rw [show clkS n c = ⟨#[]⟩ by simp [clkS, clkL, c1, c2, c3]]
    go_enter Tryd.func19, Tryd.ntmps19
    go_wp2
    go_ret
    exact ⟨rfl, rfl⟩

theorem clk_cases (c : UInt8) : (c.toNat = 119 ∧ wsu c = 0) ∨ (c.toNat = 115 ∧ wsu c = 1) ∨ (c.toNat = 117 ∧ wsu c = 2) ∨ ((¬ c.toNat = 119 ∧ ¬ c.toNat = 115 ∧ ¬ c.toNat = 117) ∧ wsu c = -1) := by
  by_cases h1 : c = 119
  · left; subst h1; exact ⟨rfl, by decide⟩
  by_cases h2 : c = 115
  · right; left; subst h2; exact ⟨rfl, by decide⟩
  by_cases h3 : c = 117
  · right; right; left; subst h3; exact ⟨rfl, by decide⟩
  · right; right; right
    refine ⟨⟨fun e => h1 (UInt8.toNat_inj.1 e), fun e => h2 (UInt8.toNat_inj.1 e), fun e => h3 (UInt8.toNat_inj.1 e)⟩, ?_⟩
    have e1 : ¬ 119 = c := fun e => h1 e.symm
    have e2 : ¬ 115 = c := fun e => h2 e.symm
    have e3 : ¬ 117 = c := fun e => h3 e.symm
    simp [wsu, Lib.indexByte, h1, h2, h3, e1, e2, e3]
theorem rclock_nil (s : ByteArray) (hz : s = ⟨#[]⟩) (w : World) :
    Calls Tryd.prog 17 #[.string s] w fun e w' => e = .returned (tripV (0, 0, 3)) ∧ w = w' := by
  subst hz
  go_enter Tryd.func17, Tryd.ntmps17
  go_wp2_with (go_at_call 46; ((with_reducible refine (rspan_none ⟨#[]⟩ _ (by decide) span_nil).mono ?_); rintro e w1 ⟨rfl, rfl⟩))
  go_ret3
  exact ⟨rfl, rfl⟩

set_option maxRecDepth 20000 in
theorem rclock_any (s : ByteArray) (w : World) (hs : s.size < 4294967281) :
    Calls Tryd.prog 17 #[.string s] w fun e w' => e = .returned (tripV (clkZ s)) ∧ w = w' := by
  unfold clkZ
  cases hl : s.data.toList.getLast? with
  | none =>
    refine rclock_nil s ?_ w
    rw [List.getLast?_eq_none_iff] at hl
    exact nil_of s (by rw [← len_is, hl]; rfl)
  | some c =>
    obtain ⟨hs0, hE, hg⟩ := last_of s c hl
    replace hg := hg (by omega)
    show Calls _ _ _ _ fun e w' => e = .returned (tripV (clkR (clkC s c) (spanZ (clkT s c)))) ∧ w = w'
    clear hl
    rcases clk_cases c with ⟨hc, hk⟩ | ⟨hc, hk⟩ | ⟨hc, hk⟩ | ⟨⟨hc1, hc2, hc3⟩, hk⟩
    · obtain ⟨t, ht⟩ : ∃ t, clkT s c = t := ⟨_, rfl⟩
      have hts : t.size < 4294967281 := by rw [← ht]; unfold clkT; split; exact hs; have := ext_size s; omega
      have HK := Lib.hid (show clkC s c = 1 by simp [clkC, hk])
      have ht2 : s.extract 0 (s.size - 1) = t := by rw [← ht, clkT, hk]; rfl
      rw [ht, HK.out]
      clear ht hk
      cases hz : spanZ t with
      | none =>
        go_enter Tryd.func17, Tryd.ntmps17
        go_wp2_with (go_at_call 46; ((with_reducible refine (rspan_none _ _ hts hz).mono ?_); rintro e w1 ⟨rfl, rfl⟩))
        go_ret3
        exact ⟨rfl, rfl⟩
      | some n =>
        have hb := spanZ_bd _ _ hz
        by_cases hn : 93600 < n
        · rw [show clkR 1 (some n) = (0, 0, 2) by simp [clkR, hn]]
          go_enter Tryd.func17, Tryd.ntmps17
          go_wp2_with (go_at_call 46; ((with_reducible refine (rspan_some _ n _ hts hz).mono ?_); rintro e w1 ⟨rfl, rfl⟩))
          go_ret3
          exact ⟨rfl, rfl⟩
        · rw [show clkR 1 (some n) = (n, 1, 0) by simp [clkR, hn]]
          go_enter Tryd.func17, Tryd.ntmps17
          go_wp2_with (go_at_call 46; ((with_reducible refine (rspan_some _ n _ hts hz).mono ?_); rintro e w1 ⟨rfl, rfl⟩))
          go_ret3
          exact ⟨rfl, rfl⟩
    · obtain ⟨t, ht⟩ : ∃ t, clkT s c = t := ⟨_, rfl⟩
      have hts : t.size < 4294967281 := by rw [← ht]; unfold clkT; split; exact hs; have := ext_size s; omega
      have HK := Lib.hid (show clkC s c = 2 by simp [clkC, hk])
      have ht2 : s.extract 0 (s.size - 1) = t := by rw [← ht, clkT, hk]; rfl
      rw [ht, HK.out]
      clear ht hk
      cases hz : spanZ t with
      | none =>
        go_enter Tryd.func17, Tryd.ntmps17
        go_wp2_with (go_at_call 46; ((with_reducible refine (rspan_none _ _ hts hz).mono ?_); rintro e w1 ⟨rfl, rfl⟩))
        go_ret3
        exact ⟨rfl, rfl⟩
      | some n =>
        have hb := spanZ_bd _ _ hz
        by_cases hn : 93600 < n
        · rw [show clkR 2 (some n) = (0, 0, 2) by simp [clkR, hn]]
          go_enter Tryd.func17, Tryd.ntmps17
          go_wp2_with (go_at_call 46; ((with_reducible refine (rspan_some _ n _ hts hz).mono ?_); rintro e w1 ⟨rfl, rfl⟩))
          go_ret3
          exact ⟨rfl, rfl⟩
        · rw [show clkR 2 (some n) = (n, 2, 0) by simp [clkR, hn]]
          go_enter Tryd.func17, Tryd.ntmps17
          go_wp2_with (go_at_call 46; ((with_reducible refine (rspan_some _ n _ hts hz).mono ?_); rintro e w1 ⟨rfl, rfl⟩))
          go_ret3
          exact ⟨rfl, rfl⟩
    · obtain ⟨t, ht⟩ : ∃ t, clkT s c = t := ⟨_, rfl⟩
      have hts : t.size < 4294967281 := by rw [← ht]; unfold clkT; split; exact hs; have := ext_size s; omega
      have HK := Lib.hid (show clkC s c = 3 by simp [clkC, hk])
      have ht2 : s.extract 0 (s.size - 1) = t := by rw [← ht, clkT, hk]; rfl
      rw [ht, HK.out]
      clear ht hk
      cases hz : spanZ t with
      | none =>
        go_enter Tryd.func17, Tryd.ntmps17
        go_wp2_with (go_at_call 46; ((with_reducible refine (rspan_none _ _ hts hz).mono ?_); rintro e w1 ⟨rfl, rfl⟩))
        go_ret3
        exact ⟨rfl, rfl⟩
      | some n =>
        have hb := spanZ_bd _ _ hz
        by_cases hn : 93600 < n
        · rw [show clkR 3 (some n) = (0, 0, 2) by simp [clkR, hn]]
          go_enter Tryd.func17, Tryd.ntmps17
          go_wp2_with (go_at_call 46; ((with_reducible refine (rspan_some _ n _ hts hz).mono ?_); rintro e w1 ⟨rfl, rfl⟩))
          go_ret3
          exact ⟨rfl, rfl⟩
        · rw [show clkR 3 (some n) = (n, 3, 0) by simp [clkR, hn]]
          go_enter Tryd.func17, Tryd.ntmps17
          go_wp2_with (go_at_call 46; ((with_reducible refine (rspan_some _ n _ hts hz).mono ?_); rintro e w1 ⟨rfl, rfl⟩))
          go_ret3
          exact ⟨rfl, rfl⟩
    · obtain ⟨t, ht⟩ : ∃ t, clkT s c = t := ⟨_, rfl⟩
      have hts : t.size < 4294967281 := by rw [← ht]; unfold clkT; split; exact hs; have := ext_size s; omega
      have HK := Lib.hid (show clkC s c = 1 by simp [clkC, hk])
      have ht2 : s = t := by rw [← ht, clkT, hk]; rfl
      rw [ht, HK.out]
      clear ht hk
      subst ht2
      have q1 : ((c.toNat : Int) == 119) = false := by simp; omega
      have q2 : ((c.toNat : Int) == 115) = false := by simp; omega
      have q3 : ((c.toNat : Int) == 117) = false := by simp; omega
      clear hc1 hc2 hc3
      cases hz : spanZ s with
      | none =>
        go_enter Tryd.func17, Tryd.ntmps17
        go_wp2_with (go_at_call 46; ((with_reducible refine (rspan_none _ _ hs hz).mono ?_); rintro e w1 ⟨rfl, rfl⟩))
        go_ret3
        exact ⟨rfl, rfl⟩
      | some n =>
        have hb := spanZ_bd _ _ hz
        by_cases hn : 93600 < n
        · rw [show clkR 1 (some n) = (0, 0, 2) by simp [clkR, hn]]
          go_enter Tryd.func17, Tryd.ntmps17
          go_wp2_with (go_at_call 46; ((with_reducible refine (rspan_some _ n _ hs hz).mono ?_); rintro e w1 ⟨rfl, rfl⟩))
          go_ret3
          exact ⟨rfl, rfl⟩
        · rw [show clkR 1 (some n) = (n, 1, 0) by simp [clkR, hn]]
          go_enter Tryd.func17, Tryd.ntmps17
          go_wp2_with (go_at_call 46; ((with_reducible refine (rspan_some _ n _ hs hz).mono ?_); rintro e w1 ⟨rfl, rfl⟩))
          go_ret3
          exact ⟨rfl, rfl⟩
end Go.Proofs.YtcpfbemmlmdcaaaDoor.Lx
