/-
  formed (layer 33) at any condition.
-/
import Derived.Test.YtgfppajbegcaeaaDoorVcG
set_option linter.unusedSimpArgs false
set_option linter.unusedVariables false
namespace Go.Proofs.YtgfppajbegcaeaaDoor.Va
open Go.RowKit Go.ChangeShapes Go.WideShapes Go.Proofs.YtgfppajbegcaeaaDoor.Sl Go.Lib

theorem size0 (s : ByteArray) (h : ¬ s = ⟨#[]⟩) : ¬ s.size = 0 := (list_ne s h).2.2
theorem fmd_node (k : Int) (col oth : ByteArray) (v : V3) (L : List CN) (d n : Nat) (hn : n + 1 ≤ 60) (hd : d ≤ 12) : fmd (.mk k col oth v L) d n = if okN k col oth v L.length then fmdL L (d + 1) (n + 1) else (false, n + 1) := by
  rw [fmd, if_neg (by omega)]
theorem okN12 (k : Int) (hk : k = 1 ∨ k = 2) (col oth : ByteArray) (v : V3) (n : Nat) : okN k col oth v n = (decide (col.size ≠ 0) && decide (n = 0) && (if oth.size = 0 then validV v else decide (v = zeroV))) := by
  unfold okN; rw [if_pos hk]
theorem okN3456 (k : Int) (hk : k = 3 ∨ k = 4 ∨ k = 5 ∨ k = 6) (col oth : ByteArray) (v : V3) (n : Nat) : okN k col oth v n = (decide (col.size = 0) && decide (oth.size = 0) && decide (v = zeroV) && decide (n = arity k)) := by
  unfold okN; rw [if_neg (by omega), if_pos hk]
theorem fmdL_nil (d n : Nat) : fmdL [] d n = (true, n) := by rw [fmdL]

theorem formed_any (W0 : World) : ∀ c, FmOk W0 c := by
  intro c
  induction c using CN.ind with
  | h k col oth v L ih =>
    intro cs d n B w hb hc hWB hB hn hd
    obtain ⟨s, ad, cap, rfl, rfl, had⟩ := hc.open
    obtain ⟨v0, v1, v2⟩ := v
    show Calls Tryd.prog 51 #[agC k col oth v0 v1 v2 (.slice ad L.length cap), .int .i64 (d : Int), .pointer (some ⟨B, 0, none⟩)] w _
    by_cases hn1 : n + 1 ≤ 60
    case neg =>
      rw [fmd, if_pos (.inl (by omega))]
      exact fno_n k col oth v0 v1 v2 _ n d B w hn (by omega) hB (by omega)
    by_cases hd1 : d ≤ 12
    case neg =>
      rw [fmd, if_pos (.inr (by omega))]
      exact fno_d k col oth v0 v1 v2 _ n d B w (by omega) (by omega) (by omega) hB
    rw [fmd_node k col oth _ L d n hn1 hd1]
    have z0 : (⟨#[]⟩ : ByteArray).size = 0 := rfl
    have nI : (n : Int) + 1 ≤ 60 := by omega
    have dI0 : (0 : Int) ≤ (d : Int) := by omega
    have dI : (d : Int) ≤ 12 := by omega
    by_cases hk : k = 1 ∨ k = 2
    · rw [okN12 k hk]
      by_cases hcol : col = ⟨#[]⟩
      · subst hcol
        rw [if_neg (by simp [z0])]
        rcases hk with rfl | rfl
        · exact fno1_c oth v0 v1 v2 _ n d B w nI dI0 dI hB
        · exact fno2_c oth v0 v1 v2 _ n d B w nI dI0 dI hB
      · have hcs := size0 col hcol
        by_cases hoth : oth = ⟨#[]⟩
        · subst hoth
          rw [if_pos z0]
          cases hv : validV (v0, v1, v2)
          · rw [if_neg (by simp)]
            rcases hk with rfl | rfl
            · exact fno1_i col v0 v1 v2 hcol hv _ n d B w nI dI0 dI hB
            · exact fno2_i col v0 v1 v2 hcol hv _ n d B w nI dI0 dI hB
          · by_cases hl : L.length = 0
            · obtain rfl : L = [] := List.length_eq_zero_iff.1 hl
              rw [if_pos (by simp [hcs]), fmdL_nil]
              rcases hk with rfl | rfl
              · exact fno1_k1 col v0 v1 v2 ad cap hcol hv .nilIface n d B w nI dI0 dI hB
              · exact fno2_k1 col v0 v1 v2 ad cap hcol hv .nilIface n d B w nI dI0 dI hB
            · rw [if_neg (by simp [hl])]
              rcases hk with rfl | rfl
              · exact fno1_l1 col v0 v1 v2 ad L.length cap hl hcol hv .nilIface n d B w nI dI0 dI hB
              · exact fno2_l1 col v0 v1 v2 ad L.length cap hl hcol hv .nilIface n d B w nI dI0 dI hB
        · have hos := size0 oth hoth
          rw [if_neg hos]
          by_cases hz : ((v0, v1, v2) : V3) = zeroV
          · obtain ⟨rfl, rfl, rfl⟩ : v0 = 0 ∧ v1 = 0 ∧ v2 = ⟨#[]⟩ := by simpa [zeroV] using hz
            by_cases hl : L.length = 0
            · obtain rfl : L = [] := List.length_eq_zero_iff.1 hl
              rw [if_pos (by simp [hcs, zeroV]), fmdL_nil]
              rcases hk with rfl | rfl
              · exact fno1_k2 col oth ad cap hcol hoth .nilIface n d B w nI dI0 dI hB
              · exact fno2_k2 col oth ad cap hcol hoth .nilIface n d B w nI dI0 dI hB
            · rw [if_neg (by simp [hl])]
              rcases hk with rfl | rfl
              · exact fno1_l2 col oth ad L.length cap hl hcol hoth .nilIface n d B w nI dI0 dI hB
              · exact fno2_l2 col oth ad L.length cap hl hcol hoth .nilIface n d B w nI dI0 dI hB
          · rw [if_neg (by simp [hz])]
            rcases hk with rfl | rfl
            · exact fno1_v col oth v0 v1 v2 hcol hoth hz _ n d B w nI dI0 dI hB
            · exact fno2_v col oth v0 v1 v2 hcol hoth hz _ n d B w nI dI0 dI hB
    by_cases hk2 : k = 3 ∨ k = 4 ∨ k = 5 ∨ k = 6
    · rw [okN3456 k hk2]
      by_cases hcol : col = ⟨#[]⟩
      case neg =>
        rw [if_neg (by simp [size0 col hcol])]
        rcases hk2 with rfl | rfl | rfl | rfl
        · exact fno3_c col oth v0 v1 v2 hcol _ n d B w nI dI0 dI hB
        · exact fno4_c col oth v0 v1 v2 hcol _ n d B w nI dI0 dI hB
        · exact fno5_c col oth v0 v1 v2 hcol _ n d B w nI dI0 dI hB
        · exact fno6_c col oth v0 v1 v2 hcol _ n d B w nI dI0 dI hB
      subst hcol
      by_cases hoth : oth = ⟨#[]⟩
      case neg =>
        rw [if_neg (by simp [size0 oth hoth])]
        rcases hk2 with rfl | rfl | rfl | rfl
        · exact fno3_o oth v0 v1 v2 hoth _ n d B w nI dI0 dI hB
        · exact fno4_o oth v0 v1 v2 hoth _ n d B w nI dI0 dI hB
        · exact fno5_o oth v0 v1 v2 hoth _ n d B w nI dI0 dI hB
        · exact fno6_o oth v0 v1 v2 hoth _ n d B w nI dI0 dI hB
      subst hoth
      by_cases hz : ((v0, v1, v2) : V3) = zeroV
      case neg =>
        rw [if_neg (by simp [hz])]
        rcases hk2 with rfl | rfl | rfl | rfl
        · exact fno3_v v0 v1 v2 hz _ n d B w nI dI0 dI hB
        · exact fno4_v v0 v1 v2 hz _ n d B w nI dI0 dI hB
        · exact fno5_v v0 v1 v2 hz _ n d B w nI dI0 dI hB
        · exact fno6_v v0 v1 v2 hz _ n d B w nI dI0 dI hB
      obtain ⟨rfl, rfl, rfl⟩ : v0 = 0 ∧ v1 = 0 ∧ v2 = ⟨#[]⟩ := by simpa [zeroV] using hz
      by_cases hl : L.length = arity k
      case neg =>
        rw [if_neg (by simp [hl])]
        rcases hk2 with rfl | rfl | rfl | rfl
        · exact fno3_l ad L.length cap hl .nilIface n d B w nI dI0 dI hB
        · exact fno4_l ad L.length cap hl .nilIface n d B w nI dI0 dI hB
        · exact fno5_l ad L.length cap hl .nilIface n d B w nI dI0 dI hB
        · exact fno6_l ad L.length cap hl .nilIface n d B w nI dI0 dI hB
      rw [if_pos (by simp [z0, hl, zeroV])]
      rcases hk2 with rfl | rfl | rfl | rfl
      · obtain rfl : L = [] := List.length_eq_zero_iff.1 hl
        rw [fmdL_nil]
        exact fno3_k ad cap .nilIface n d B w nI dI0 dI hB
      · rw [show L.length = 1 from hl]
        exact fgo4 L ad cap n d B W0 w hl ih hb hWB had nI dI0 dI hB
      · rw [show L.length = 2 from hl]
        exact fgo5 L ad cap n d B W0 w hl ih hb hWB had nI dI0 dI hB
      · rw [show L.length = 2 from hl]
        exact fgo6 L ad cap n d B W0 w hl ih hb hWB had nI dI0 dI hB
    · have ho : okN k col oth (v0, v1, v2) L.length = false := by unfold okN; rw [if_neg hk, if_neg hk2]
      rw [ho, if_neg (by simp)]
      exact fno_k k col oth v0 v1 v2 _ n d B w nI dI0 dI hB (by omega) (by omega) (by omega) (by omega) (by omega) (by omega)
/-- The answer of formed at a count that begins at zero. -/
theorem formed0 (c : CN) (cs : List Value) (B : Nat) (W0 w : World) (hb : Below W0.heap.size W0 w) (hc : CnAt W0 cs c) (hWB : W0.heap.size ≤ B) (hB : Boxed w B 3 (.int .i64 0)) :
    Calls Tryd.prog 51 #[.agg cs.toArray, .int .i64 1, .pointer (some ⟨B, 0, none⟩)] w fun e w' => e = .returned (.bool (wellF c)) ∧ Below W0.heap.size W0 w' ∧ w.grownBy w' (some B) := by
  refine (formed_any W0 c cs 1 0 B w hb hc hWB hB (by omega) (by omega)).mono fun e w' h => ?_
  rw [← fmd_well]
  obtain ⟨h1, h2, h3⟩ := h
  exact ⟨h1, below_grown hb h3 hWB, h3⟩
end Go.Proofs.YtgfppajbegcaeaaDoor.Va
