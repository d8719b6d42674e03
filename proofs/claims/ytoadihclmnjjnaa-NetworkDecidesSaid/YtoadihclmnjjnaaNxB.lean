/-
  Networks, the reference: Table, Close (layer 46).
-/
import Derived.Test.YtoadihclmnjjnaaNxA
import Derived.Test.YtoadihclmnjjnaaNwV
set_option linter.unusedSimpArgs false
set_option linter.unusedVariables false
set_option maxRecDepth 100000
namespace Go.Proofs.Ytoadihclmnjjnaa.Nw
open Go Go.RowKit Go.ChangeShapes Go.WideShapes Go.Proofs.Ytoadihclmnjjnaa.Sl Go.Proofs.Ytoadihclmnjjnaa.Al Go.Lib

theorem rbasic_nat (r s : Nat) (hr : r < 13) (hs : s < 13) (w : World) : Calls Try.prog 63 #[.int .i64 (r : Int), .int .i64 (s : Int)] w fun e w' => e = .returned (.int .i64 ((bas r s : Nat) : Int)) ∧ Below w.heap.size w w' := by
  have := rbasic_any (r : Int) (s : Int) w
  unfold basB inR at this
  rw [if_pos (by simp; omega)] at this
  simpa using this
theorem Kf.tb {W0 w : World} {v : Value} (h : Kf W0 w v (tabL 169)) : Tb w v := by
  have h1 := h.1
  rw [tabL_len] at h1
  obtain ⟨hl, ⟨_, h2⟩ | ⟨g, cap, cur, rfl, hg, hh, hcap, hmx, hsz, ht⟩⟩ := h1
  · omega
  · refine ⟨g, cap, rfl, fun r s hr hs => ?_⟩
    have hj : 13 * r + s < 169 := by omega
    rw [cell_of_row _ _ _ _ _ _ hh]
    have h3 : (cur.toList.take (169 * 1))[13 * r + s]? = some (.int .i64 ((bas r s : Nat) : Int)) := by
      rw [ht, List.getElem?_map, tabL_get 169 _ hj, show (13 * r + s) / 13 = r by omega, show (13 * r + s) % 13 = s by omega]; rfl
    rw [List.getElem?_take, if_pos (by omega), Array.getElem?_toList] at h3
    exact h3
set_option maxHeartbeats 4000000 in
theorem table_any (w : World) : Calls Try.prog 21 #[] w fun e w' => ∃ v, e = .returned v ∧ Tb w' v ∧ Below w.heap.size w w' := by
  go_enter Try.func21, Try.ntmps21
  go_wp2
  go_loopw [1, 2] (fun v rv wr => ∃ r : Nat, r ≤ 13 ∧ rv = .int .i64 (r : Int) ∧ Kf w wr v (tabL (13 * r))) (fun _ rv _ => 13 - (RowKit.intOf rv).toNat)
  case atStart => exact ⟨0, by omega, rfl, Kf.nil w⟩
  case round =>
    obtain ⟨r, hr, rfl, hK⟩ := hrel
    by_cases hr13 : r < 13
    · have r0 : (0 : Int) ≤ (r : Int) := by omega
      have r1 : (r : Int) < 13 := by omega
      go_wp2
      go_loopw [1, 3] (fun v sv ws => ∃ s : Nat, s ≤ 13 ∧ sv = .int .i64 (s : Int) ∧ Kf w ws v (tabL (13 * r + s))) (fun _ sv _ => 13 - (RowKit.intOf sv).toNat)
      case atStart => exact ⟨0, by omega, rfl, hK⟩
      case round =>
        obtain ⟨s, hs, rfl, hK2⟩ := hrel
        by_cases hs13 : s < 13
        · have s0 : (0 : Int) ≤ (s : Int) := by omega
          have s1 : (s : Int) < 13 := by omega
          have HBA := fun W => rbasic_nat r s hr13 hs13 W
          have hst := tabL_succ (13 * r + s)
          rw [show (13 * r + s) / 13 = r by omega, show (13 * r + s) % 13 = s by omega] at hst
          have HST := Lib.hid hst
          have hlen : (tabL (13 * r + s)).length ≤ 1000000 := by rw [tabL_len]; omega
          clear hst
          go_wp2_with (first | (go_at_call 63; (with_reducible refine (HBA _).mono ?_); rintro e w1 ⟨rfl, hb1⟩; have hK3 : Kf w w1 _ (tabL (13 * r + s)) := hK2.step hb1) | (at_builtin; go_must (refine wp_place hK3 rfl (.tmp 12) (.tmp 16) rfl rfl 3 rfl (by simp) (bas r s) hlen ?_); intro v1 w2 hK4))
          go_roundw
          case rel => exact ⟨s + 1, by omega, by go_num, by rw [show 13 * r + (s + 1) = 13 * r + s + 1 by omega, HST.out]; exact hK4⟩
          case measure => simp [RowKit.intOf]; omega
        · have hs2 : s = 13 := by omega
          subst hs2
          go_wp2
          go_roundw
          case rel => exact ⟨r + 1, by omega, by go_num, by rw [show 13 * (r + 1) = 13 * r + 13 by omega]; exact hK2⟩
          case measure => simp [RowKit.intOf]; omega
    · have hr2 : r = 13 := by omega
      subst hr2
      have HK := Lib.hid hK
      clear hK
      go_wp2
      go_ret
      exact ⟨_, rfl, HK.out.tb, HK.out.2⟩
end Go.Proofs.Ytoadihclmnjjnaa.Nw
