/-
  The walk of the reference's Compare of values (layer 33).
-/
import Derived.Test.YtgfppajbegcaeaaDoorVaM
import Derived.IntWalk
set_option linter.unusedSimpArgs false
set_option linter.unusedVariables false
namespace Go.Proofs.YtgfppajbegcaeaaDoor.Va
open Go.RowKit Go.ChangeShapes Go.WideShapes Go.Proofs.YtgfppajbegcaeaaDoor.Sl


theorem cmpB_is (a b : UInt8) : cmpB a b = cmpI a.toNat b.toNat := rfl
theorem cmpL_step (s t : ByteArray) (k : Nat) (h1 : k < s.size) (h2 : k < t.size) : cmpL (s.data.toList.drop k) (t.data.toList.drop k) = if cmpI (s[k]'h1).toNat (t[k]'h2).toNat = 0 then cmpL (s.data.toList.drop (k + 1)) (t.data.toList.drop (k + 1)) else cmpI (s[k]'h1).toNat (t[k]'h2).toNat := by
  have e1 : s.data.toList.drop k = s[k] :: s.data.toList.drop (k + 1) := List.drop_eq_getElem_cons (by rw [Array.length_toList]; exact h1)
  have e2 : t.data.toList.drop k = t[k] :: t.data.toList.drop (k + 1) := List.drop_eq_getElem_cons (by rw [Array.length_toList]; exact h2)
  rw [e1, e2]
  rfl
theorem cmpL_end (s t : ByteArray) (k : Nat) (h1 : k ≤ s.size) (h2 : k ≤ t.size) (h : ¬ (k < s.size ∧ k < t.size)) : cmpL (s.data.toList.drop k) (t.data.toList.drop k) = cmpI s.size t.size := by
  have l1 : s.data.toList.length = s.size := Array.length_toList
  have l2 : t.data.toList.length = t.size := Array.length_toList
  by_cases h3 : k < s.size
  · have h4 : k = t.size := by omega
    rw [List.drop_eq_getElem_cons (by omega), List.drop_of_length_le (l := t.data.toList) (by omega), cmpI_is, if_neg (by omega), if_pos (by omega)]
    rfl
  · rw [List.drop_of_length_le (l := s.data.toList) (by omega)]
    by_cases h4 : k < t.size
    · rw [List.drop_eq_getElem_cons (by omega), cmpI_is, if_pos (by omega)]; rfl
    · rw [List.drop_of_length_le (by omega), cmpI_is, if_neg (by omega), if_neg (by omega)]; rfl
theorem cmpI_zero (a b : Int) : cmpI a b = 0 ↔ a = b := cmpI_cmp.eq a b

set_option maxRecDepth 20000 in
set_option maxHeartbeats 1000000 in
theorem rcompare_any (a b : V3) (w : World) (hs : a.2.2.size ≤ 9223372036854775807) (hs2 : b.2.2.size ≤ 9223372036854775807) : Calls Tryd.prog 35 #[agV a.1 a.2.1 a.2.2, agV b.1 b.2.1 b.2.2] w fun e w' => e = .returned (.int .i64 (ordV a b)) ∧ Below w.heap.size w w' := by
  obtain ⟨k, n, s⟩ := a
  obtain ⟨k2, n2, s2⟩ := b
  change s.size ≤ _ at hs
  change s2.size ≤ _ at hs2
  show Calls Tryd.prog 35 #[agV k n s, agV k2 n2 s2] w fun e w' => e = .returned (.int .i64 (or3 (cmpI k k2) (cmpI n n2) (cmpL s.data.toList s2.data.toList))) ∧ Below w.heap.size w w'
  unfold or3
  by_cases h1 : k = k2
  · subst h1
    rw [if_pos ((cmpI_zero _ _).2 rfl)]
    by_cases h2 : n = n2
    · subst h2
      rw [if_pos ((cmpI_zero _ _).2 rfl)]
      obtain ⟨Z, hZ⟩ : ∃ Z, cmpL s.data.toList s2.data.toList = Z := ⟨_, rfl⟩
      have HZ := Lib.hid hZ
      rw [hZ]
      clear hZ
      go_enter Tryd.func35, Tryd.ntmps35
      go_wp2
      go_loopw [5] (fun i wr => ∃ k : Nat, k ≤ s.size ∧ k ≤ s2.size ∧ i = .int .i64 k ∧ Hid (cmpL (s.data.toList.drop k) (s2.data.toList.drop k) = Z) ∧ Kp w [] wr ∧ wr.heap.size = w.heap.size + 2 ∧ wr.cell? ⟨w.heap.size, 2, none⟩ = some (.string s) ∧ wr.cell? ⟨w.heap.size + 1, 2, none⟩ = some (.string s2)) (fun i _ => s.size - (intOf i).toNat)
      case atStart => exact ⟨0, Nat.zero_le _, Nat.zero_le _, rfl, Lib.hid HZ.out, Kp.start (by go_grown), by simp, by simp, by simp⟩
      case round =>
        obtain ⟨j, hk, hk2, rfl, HI, hL, hW, d0, d1⟩ := hrel
        have hB := hL.1
        by_cases hlt : j < s.size
        · by_cases hm2 : j < s2.size
          · have hst := cmpL_step s s2 j hlt hm2
            rw [HI.out] at hst
            have HS := Lib.hid hst
            have k0 : (0 : Int) ≤ (j : Int) := by omega
            have k1 : (j : Int) < (s.size : Int) := by omega
            have k2 : (j : Int) < (s2.size : Int) := by omega
            have HG := fun W => sign_any (s[j]'hlt).toNat (s2[j]'hm2).toNat W
            clear hst
            by_cases hz : (s[j]'hlt).toNat = (s2[j]'hm2).toNat
            · have hz2 : cmpI (s[j]'hlt).toNat (s2[j]'hm2).toNat = 0 := (cmpI_zero _ _).2 (by omega)
              have HS2 : Hid (cmpL (s.data.toList.drop (j + 1)) (s2.data.toList.drop (j + 1)) = Z) := Lib.hid (by have := HS.out; rw [if_pos hz2] at this; exact this.symm)
              have hz3 : s[j]'hlt = s2[j]'hm2 := UInt8.toNat_inj.1 hz
              clear hz hz2 HG HS
              go_wp2
              go_quiet (fail)
              go_wp2
              go_roundw
              case rel => exact ⟨j + 1, by omega, by omega, by go_num, HS2, ⟨bdrewN hB _, fun c hc => by cases hc⟩, by simpa using hW, by simpa using d0, by simpa using d1⟩
              case measure => simp [intOf]; omega
            · have hz2 : ¬ cmpI (s[j]'hlt).toNat (s2[j]'hm2).toNat = 0 := fun h => hz (by have := (cmpI_zero _ _).1 h; omega)
              have HS2 : Hid (Z = cmpI (s[j]'hlt).toNat (s2[j]'hm2).toNat) := Lib.hid (by have := HS.out; rw [if_neg hz2] at this; exact this)
              have hz4 : (((s[j]'hlt).toNat : Int) == ((s2[j]'hm2).toNat : Int)) = false := by simp; omega
              have hz5 : ((s[j]'hlt).toNat == (s2[j]'hm2).toNat) = false := by simp; omega
              have hz6 : ¬ s[j]'hlt = s2[j]'hm2 := fun h => hz (by rw [h])
              generalize cmpI (s[j]'hlt).toNat (s2[j]'hm2).toNat = zz at HG HS2
              have b1 := UInt8.toNat_lt (s[j]'hlt)
              have b2 := UInt8.toNat_lt (s2[j]'hm2)
              have HGw : ∀ W : World, Calls Tryd.prog 56 #[.int .i64 (wrap64 ((s[j]'hlt).toNat : Int)), .int .i64 (wrap64 ((s2[j]'hm2).toNat : Int))] W fun e w' => e = .returned (.int .i64 zz) ∧ w' = W := fun W => by
                have w3 : wrap64 ((s[j]'hlt).toNat : Int) = ((s[j]'hlt).toNat : Int) := by unfold wrap64; omega
                have w4 : wrap64 ((s2[j]'hm2).toNat : Int) = ((s2[j]'hm2).toNat : Int) := by unfold wrap64; omega
                rw [w3, w4]; exact HG W
              have hd0 : ∀ q, (wr.drewN q).cell? ⟨w.heap.size, 2, none⟩ = some (.string s) := fun q => d0
              have hd1 : ∀ q, (wr.drewN q).cell? ⟨w.heap.size + 1, 2, none⟩ = some (.string s2) := fun q => d1
              have hBq := Lib.hid (fun q => bdrewN hB q)
              have HD0 := Lib.hid hd0
              have HD1 := Lib.hid hd1
              clear hz hz2 HS b1 b2 hd0 hd1
              go_wp2
              go_quiet (fail)
              go_wp2
              generalize hwq : World.drewN wr _ = wq
              have e0 : wq.cell? ⟨w.heap.size, 2, none⟩ = some (.string s) := by rw [← hwq]; exact HD0.out _
              have e1 : wq.cell? ⟨w.heap.size + 1, 2, none⟩ = some (.string s2) := by rw [← hwq]; exact HD1.out _
              have hB3 : Below w.heap.size w wq := by rw [← hwq]; exact hBq.out _
              clear hwq d0 d1 hBq
              go_quiet ((go_at_call 56; go_simp; with_reducible exact Calls.quiet_of_same (HGw _)))
              go_wp2
              go_ret
              exact ⟨by rw [HS2.out]; rfl, bdrewN hB3 _⟩
          · have he := cmpL_end s s2 j hk hk2 (by omega)
            rw [HI.out] at he
            have HS := Lib.hid he
            have HG := fun W => sign_any s.size s2.size W
            clear he
            generalize cmpI s.size s2.size = zz at HG HS
            go_wp2_with (go_at_call 56; (with_reducible refine (HG _).mono ?_); rintro e w1 ⟨rfl, rfl⟩)
            go_ret
            exact ⟨by rw [HS.out]; rfl, hB⟩
        · have he := cmpL_end s s2 j hk hk2 (by omega)
          rw [HI.out] at he
          have HS := Lib.hid he
          have HG := fun W => sign_any s.size s2.size W
          clear he
          generalize cmpI s.size s2.size = zz at HG HS
          go_wp2_with (go_at_call 56; (with_reducible refine (HG _).mono ?_); rintro e w1 ⟨rfl, rfl⟩)
          go_ret
          exact ⟨by rw [HS.out]; rfl, hB⟩
    · have h3 : ¬ cmpI n n2 = 0 := fun h => h2 ((cmpI_zero _ _).1 h)
      rw [if_neg h3]
      have HG := fun W => sign_any n n2 W
      generalize cmpI n n2 = zz at HG ⊢
      clear h3
      go_enter Tryd.func35, Tryd.ntmps35
      go_wp2_with (go_at_call 56; (with_reducible refine (HG _).mono ?_); rintro e w1 ⟨rfl, rfl⟩)
      go_ret
      exact ⟨rfl, by go_grown⟩
  · have h3 : ¬ cmpI k k2 = 0 := fun h => h1 ((cmpI_zero _ _).1 h)
    rw [if_neg h3]
    have HG := fun W => sign_any k k2 W
    generalize cmpI k k2 = zz at HG ⊢
    clear h3
    go_enter Tryd.func35, Tryd.ntmps35
    go_wp2_with (go_at_call 56; (with_reducible refine (HG _).mono ?_); rintro e w1 ⟨rfl, rfl⟩)
    go_ret
    exact ⟨rfl, by go_grown⟩
end Go.Proofs.YtgfppajbegcaeaaDoor.Va
