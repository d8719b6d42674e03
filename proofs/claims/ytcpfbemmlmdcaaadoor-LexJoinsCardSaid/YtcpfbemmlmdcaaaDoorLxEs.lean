/-
  The walks of slices.Equal and slices.EqualFunc at lists of texts (layer 18).
-/
import Derived.Test.YtcpfbemmlmdcaaaDoorLxTx
set_option linter.unusedSimpArgs false
set_option linter.unusedVariables false
namespace Go.Proofs.YtcpfbemmlmdcaaaDoor.Lx
open Go.RowKit Go.ChangeShapes Go.WideShapes Go.Proofs.YtcpfbemmlmdcaaaDoor.Sl

theorem equalS_any (l : List ByteArray) (a b : Value) (w : World) (hl : l.length ≤ 200000) (ha : Sl w a l.length 1 (l.map Value.string)) (hb : Sl w b l.length 1 (l.map Value.string)) :
    Calls Tryd.prog 38 #[a, b] w fun e w' => e = .returned (.bool true) ∧ Below w.heap.size w w' := by
  by_cases h0 : l.length = 0
  · obtain ⟨ad, cap, rfl⟩ := ha.form
    obtain ⟨bd, bcap, rfl⟩ := hb.form
    rw [h0]
    refine (Tryd.slices_Equal_string_empty ad bd cap 0 bcap w (by omega)).mono ?_
    rintro e w' ⟨rfl, rfl⟩
    exact ⟨rfl, Below.refl _ _⟩
  · obtain ⟨g, off, cap, rfl, hc⟩ := ha.open h0
    obtain ⟨g2, off2, cap2, rfl, hc2⟩ := hb.open h0
    have key : ∀ j, j < l.length → (l.map Value.string)[j]? = some (.string (l.getD j ByteArray.empty)) := by
      intro j hj
      rw [List.getElem?_map, List.getD_eq_getElem?_getD, List.getElem?_eq_getElem hj]; rfl
    refine (Tryd.slices_Equal_string g off l.length cap g2 off2 l.length cap2 l l w (Nat.le_refl _) (Nat.le_refl _) (by omega) (by omega) (fun j hj => hc j _ (key j hj)) (fun j hj => hc2 j _ (key j hj))).mono ?_
    rintro e w' ⟨rfl, q, rfl⟩
    exact ⟨by simp, bdrewN (Below.refl _ _) q⟩

/-- Each list of texts is not too long. -/
def ShortS (T : List (List ByteArray)) : Prop := T.length ≤ 200000 ∧ ∀ l ∈ T, l.length ≤ 200000
theorem txs_short (L : List (List Tok)) (h : Short L) : ShortS (txs L) := by
  refine ⟨by unfold txs; rw [List.length_map]; have := h.1; omega, fun l hl => ?_⟩
  unfold txs at hl
  obtain ⟨ws, h1, rfl⟩ := List.mem_map.1 hl
  unfold tx
  rw [List.length_map]
  have := h.2 ws h1
  omega
theorem ShortS.app {S T : List (List ByteArray)} (h : S.length ≤ 100000) (h2 : T.length ≤ 100000) (h3 : ShortS S) (h4 : ShortS T) : ShortS (S ++ T) := by
  refine ⟨by rw [List.length_append]; omega, fun l hl => ?_⟩
  rcases List.mem_append.1 hl with hl | hl
  · exact h3.2 l hl
  · exact h4.2 l hl

theorem closS1_any (l : List ByteArray) (a b : Value) (w : World) (hl : l.length ≤ 200000) (ha : Sl w a l.length 1 (l.map Value.string)) (hb : Sl w b l.length 1 (l.map Value.string)) :
    Calls Tryd.prog 37 #[a, b] w fun e w' => e = .returned (.bool true) ∧ Below w.heap.size w w' := by
  go_enter Tryd.func37, Tryd.ntmps37
  go_wp2_with (go_at_call 38; with_reducible refine (equalS_any l _ _ _ hl ha hb).mono ?_; rintro e w1 ⟨rfl, hL⟩)
  go_ret
  exact ⟨rfl, hL⟩
set_option maxRecDepth 20000 in
theorem eqS1_any (L : List (List ByteArray)) (a b : Value) (w : World) (hS : ShortS L) (ha : Ts w a L) (hb : Ts w b L) :
    Calls Tryd.prog 35 #[a, b, .func (.func 37) #[] #[]] w fun e w' => e = .returned (.bool true) ∧ Below w.heap.size w w' := by
  obtain ⟨hs1, sa, ea⟩ := ha
  obtain ⟨hs2, sb, eb⟩ := hb
  by_cases h0 : L.length = 0
  · obtain ⟨ad, cap, rfl⟩ := sa.form
    obtain ⟨bd, bcap, rfl⟩ := sb.form
    rw [h0]
    go_enter Tryd.func35, Tryd.ntmps35
    go_wp2
    refine wp_loop_rounds 1 ?_
    rw [rounds_succ]
    go_wp2
    go_ret
    exact ⟨rfl, Below.refl _ _⟩
  · have hla : hs1.length = L.length := by have := sa.1; omega
    have hlb : hs2.length = L.length := by have := sb.1; omega
    obtain ⟨g, off, cap, rfl, hc⟩ := sa.open h0
    obtain ⟨g2, off2, cap2, rfl, hc2⟩ := sb.open h0
    obtain ⟨n, hn⟩ : ∃ n, n = L.length := ⟨_, rfl⟩
    have HN := Lib.hid hn
    have hl := hS.1
    have HSS := Lib.hid hS.2
    rw [← hn] at hl h0 ⊢
    have HC := Lib.hid hc
    have HC2 := Lib.hid hc2
    have EA := Lib.hid ea
    have EB := Lib.hid eb
    have HLA := Lib.hid hla
    have HLB := Lib.hid hlb
    clear hc hc2 sa sb ea eb hn hla hlb hS
    go_enter Tryd.func35, Tryd.ntmps35
    go_wp2
    go_loopw [17] (fun i wr => ∃ k : Nat, k ≤ n ∧ i = .int .i64 k ∧ Below w.heap.size w wr) (fun i _ => n - (intOf i).toNat)
    case atStart => exact ⟨0, Nat.zero_le _, rfl, Below.refl _ _⟩
    case round =>
      obtain ⟨k, hk, rfl, hL⟩ := hrel
      by_cases hlt : k < n
      · obtain ⟨t, ht⟩ : ∃ t, L[k]? = some t := ⟨_, List.getElem?_eq_getElem (by rw [← HN.out]; exact hlt)⟩
        obtain ⟨x, hx⟩ : ∃ x, hs1[k]? = some x := ⟨_, List.getElem?_eq_getElem (by rw [HLA.out, ← HN.out]; exact hlt)⟩
        obtain ⟨y, hy⟩ : ∃ y, hs2[k]? = some y := ⟨_, List.getElem?_eq_getElem (by rw [HLB.out, ← HN.out]; exact hlt)⟩
        have a0 := cell_kept (HC.out _ _ hx) hL
        have b0 := cell_kept (HC2.out _ _ hy) hL
        have hlt2 := HSS.out t (List.mem_of_getElem? ht)
        have SA := Lib.hid ((EA.out k x t hx ht).below hL)
        have SB := Lib.hid ((EB.out k y t hy ht).below hL)
        have k0 : (0 : Int) ≤ (k : Int) := by omega
        have k1 : (k : Int) < (n : Int) := by omega
        clear ht hx hy
        go_wp2_with (go_at_call 37; with_reducible refine (closS1_any t _ _ _ hlt2 SA.out SB.out).mono ?_; rintro e w1 ⟨rfl, hb⟩; have hL2 := bstep hL hb; clear hb)
        go_roundw
        case rel => exact ⟨k + 1, by omega, by go_num, hL2⟩
        case measure => simp [intOf]; omega
      · go_wp2
        go_ret
        exact ⟨rfl, hL⟩

theorem closS2_any (l : List ByteArray) (a b : Value) (w : World) (hl : l.length ≤ 200000) (ha : Sl w a l.length 1 (l.map Value.string)) (hb : Sl w b l.length 1 (l.map Value.string)) :
    Calls Tryd.prog 40 #[a, b] w fun e w' => e = .returned (.bool true) ∧ Below w.heap.size w w' := by
  go_enter Tryd.func40, Tryd.ntmps40
  go_wp2_with (go_at_call 38; with_reducible refine (equalS_any l _ _ _ hl ha hb).mono ?_; rintro e w1 ⟨rfl, hL⟩)
  go_ret
  exact ⟨rfl, hL⟩
set_option maxRecDepth 20000 in
theorem eqS2_any (L : List (List ByteArray)) (a b : Value) (w : World) (hS : ShortS L) (ha : Ts w a L) (hb : Ts w b L) :
    Calls Tryd.prog 35 #[a, b, .func (.func 40) #[] #[]] w fun e w' => e = .returned (.bool true) ∧ Below w.heap.size w w' := by
  obtain ⟨hs1, sa, ea⟩ := ha
  obtain ⟨hs2, sb, eb⟩ := hb
  by_cases h0 : L.length = 0
  · obtain ⟨ad, cap, rfl⟩ := sa.form
    obtain ⟨bd, bcap, rfl⟩ := sb.form
    rw [h0]
    go_enter Tryd.func35, Tryd.ntmps35
    go_wp2
    refine wp_loop_rounds 1 ?_
    rw [rounds_succ]
    go_wp2
    go_ret
    exact ⟨rfl, Below.refl _ _⟩
  · have hla : hs1.length = L.length := by have := sa.1; omega
    have hlb : hs2.length = L.length := by have := sb.1; omega
    obtain ⟨g, off, cap, rfl, hc⟩ := sa.open h0
    obtain ⟨g2, off2, cap2, rfl, hc2⟩ := sb.open h0
    obtain ⟨n, hn⟩ : ∃ n, n = L.length := ⟨_, rfl⟩
    have HN := Lib.hid hn
    have hl := hS.1
    have HSS := Lib.hid hS.2
    rw [← hn] at hl h0 ⊢
    have HC := Lib.hid hc
    have HC2 := Lib.hid hc2
    have EA := Lib.hid ea
    have EB := Lib.hid eb
    have HLA := Lib.hid hla
    have HLB := Lib.hid hlb
    clear hc hc2 sa sb ea eb hn hla hlb hS
    go_enter Tryd.func35, Tryd.ntmps35
    go_wp2
    go_loopw [17] (fun i wr => ∃ k : Nat, k ≤ n ∧ i = .int .i64 k ∧ Below w.heap.size w wr) (fun i _ => n - (intOf i).toNat)
    case atStart => exact ⟨0, Nat.zero_le _, rfl, Below.refl _ _⟩
    case round =>
      obtain ⟨k, hk, rfl, hL⟩ := hrel
      by_cases hlt : k < n
      · obtain ⟨t, ht⟩ : ∃ t, L[k]? = some t := ⟨_, List.getElem?_eq_getElem (by rw [← HN.out]; exact hlt)⟩
        obtain ⟨x, hx⟩ : ∃ x, hs1[k]? = some x := ⟨_, List.getElem?_eq_getElem (by rw [HLA.out, ← HN.out]; exact hlt)⟩
        obtain ⟨y, hy⟩ : ∃ y, hs2[k]? = some y := ⟨_, List.getElem?_eq_getElem (by rw [HLB.out, ← HN.out]; exact hlt)⟩
        have a0 := cell_kept (HC.out _ _ hx) hL
        have b0 := cell_kept (HC2.out _ _ hy) hL
        have hlt2 := HSS.out t (List.mem_of_getElem? ht)
        have SA := Lib.hid ((EA.out k x t hx ht).below hL)
        have SB := Lib.hid ((EB.out k y t hy ht).below hL)
        have k0 : (0 : Int) ≤ (k : Int) := by omega
        have k1 : (k : Int) < (n : Int) := by omega
        clear ht hx hy
        go_wp2_with (go_at_call 40; with_reducible refine (closS2_any t _ _ _ hlt2 SA.out SB.out).mono ?_; rintro e w1 ⟨rfl, hb⟩; have hL2 := bstep hL hb; clear hb)
        go_roundw
        case rel => exact ⟨k + 1, by omega, by go_num, hL2⟩
        case measure => simp [intOf]; omega
      · go_wp2
        go_ret
        exact ⟨rfl, hL⟩
end Go.Proofs.YtcpfbemmlmdcaaaDoor.Lx
