/-
  The walks of the reference's Valid and All (layer 33).
-/
import Derived.Test.YtokbipfkpojflaaVaM
set_option linter.unusedSimpArgs false
set_option linter.unusedVariables false
namespace Go.Proofs.Ytokbipfkpojflaa.Va
open Go.RowKit Go.ChangeShapes Go.WideShapes Go.Proofs.Ytokbipfkpojflaa.Sl

theorem rvalid_else (k n : Int) (s : ByteArray) (w : World) (h1 : ¬ k = 1) (h2 : ¬ k = 2) (h3 : ¬ k = 3) (h4 : ¬ k = 4) :
    Calls Try.prog 101 #[agV k n s] w fun e w' => e = .returned (.bool false) ∧ Below w.heap.size w w' := by
  go_enter Try.func101, Try.ntmps101
  go_wp2
  go_ret
  exact ⟨rfl, by go_grown⟩
theorem rvalid1 (n : Int) (s : ByteArray) (w : World) :
    Calls Try.prog 101 #[agV 1 n s] w fun e w' => e = .returned (.bool (decide (s.size = 0))) ∧ Below w.heap.size w w' := by
  by_cases hs : s = ⟨#[]⟩
  · have z0 : (⟨#[]⟩ : ByteArray).size = 0 := rfl
    subst hs
    go_enter Try.func101, Try.ntmps101
    go_wp2
    go_ret
    exact ⟨by simp [z0], by go_grown⟩
  · obtain ⟨h1, h2, h3⟩ := list_ne s hs
    go_enter Try.func101, Try.ntmps101
    go_wp2
    go_ret
    exact ⟨by simp [h3], by go_grown⟩
theorem rvalid3 (n : Int) (s : ByteArray) (w : World) :
    Calls Try.prog 101 #[agV 3 n s] w fun e w' => e = .returned (.bool (decide (s.size = 0) && (decide (n = 0) || decide (n = 1)))) ∧ Below w.heap.size w w' := by
  by_cases hs : s = ⟨#[]⟩
  · have z0 : (⟨#[]⟩ : ByteArray).size = 0 := rfl
    subst hs
    by_cases h0 : n = 0
    · subst h0
      go_enter Try.func101, Try.ntmps101
      go_wp2
      go_ret
      exact ⟨by simp [z0], by go_grown⟩
    · by_cases h1 : n = 1
      · subst h1
        go_enter Try.func101, Try.ntmps101
        go_wp2
        go_ret
        exact ⟨by simp [z0], by go_grown⟩
      · go_enter Try.func101, Try.ntmps101
        go_wp2
        go_ret
        exact ⟨by simp [z0, h0, h1], by go_grown⟩
  · obtain ⟨h1, h2, h3⟩ := list_ne s hs
    go_enter Try.func101, Try.ntmps101
    go_wp2
    go_ret
    exact ⟨by simp [h3], by go_grown⟩
theorem rvalid4 (n : Int) (s : ByteArray) (w : World) :
    Calls Try.prog 101 #[agV 4 n s] w fun e w' => e = .returned (.bool (decide (s.size = 0) && decide (-62135596800 ≤ n) && decide (n ≤ 253402300800))) ∧ Below w.heap.size w w' := by
  by_cases hs : s = ⟨#[]⟩
  · have z0 : (⟨#[]⟩ : ByteArray).size = 0 := rfl
    subst hs
    by_cases h0 : -62135596800 ≤ n
    · by_cases h1 : n ≤ 253402300800
      · go_enter Try.func101, Try.ntmps101
        go_wp2
        go_ret
        exact ⟨by simp [z0, h0, h1], by go_grown⟩
      · go_enter Try.func101, Try.ntmps101
        go_wp2
        go_ret
        exact ⟨by simp [z0, h0, h1], by go_grown⟩
    · go_enter Try.func101, Try.ntmps101
      go_wp2
      go_ret
      exact ⟨by simp [z0, h0]; try omega, by go_grown⟩
  · obtain ⟨h1, h2, h3⟩ := list_ne s hs
    go_enter Try.func101, Try.ntmps101
    go_wp2
    go_ret
    exact ⟨by simp [h3], by go_grown⟩
theorem okC_is (c : UInt8) : okC c = (decide (32 ≤ c.toNat) && decide (c.toNat ≤ 126)) := rfl
theorem txt_step (s : ByteArray) (k : Nat) (h : k < s.size) : (s.data.toList.drop k).all okC = (okC (s[k]'h) && (s.data.toList.drop (k + 1)).all okC) := by
  have e1 : s.data.toList.drop k = s[k] :: s.data.toList.drop (k + 1) := List.drop_eq_getElem_cons (by rw [Array.length_toList]; exact h)
  rw [e1, List.all_cons]
theorem rvalid2 (n : Int) (s : ByteArray) (w : World) (hs : s.size ≤ 9223372036854775807) :
    Calls Try.prog 101 #[agV 2 n s] w fun e w' => e = .returned (.bool (decide (n = 0) && decide (s.size ≤ 30) && txtB s)) ∧ Below w.heap.size w w' := by
  by_cases h0 : n = 0
  · subst h0
    by_cases h1 : s.size ≤ 30
    · obtain ⟨Z, hZ⟩ : ∃ c, txtB s = c := ⟨_, rfl⟩
      have HZ := Lib.hid hZ
      have z1 : (s.size : Int) ≤ 30 := by omega
      have hd : decide (s.size ≤ 30) = true := by simpa using h1
      rw [hZ, hd]
      clear hZ hd hs
      go_enter Try.func101, Try.ntmps101
      go_wp2
      go_loopw [3] (fun i wr => ∃ k : Nat, k ≤ s.size ∧ i = .int .i64 k ∧ Hid ((s.data.toList.drop k).all okC = Z) ∧ wr = w.alloc (.cells #[.int .i64 2, .int .i64 0, .string s] 72)) (fun i _ => s.size - (intOf i).toNat)
      case atStart => exact ⟨0, Nat.zero_le _, rfl, Lib.hid HZ.out, rfl⟩
      case round =>
        obtain ⟨k, hk, rfl, HI, rfl⟩ := hrel
        by_cases hlt : k < s.size
        · have hst := txt_step s k hlt
          rw [HI.out, okC_is] at hst
          have HS := Lib.hid hst
          have k0 : (0 : Int) ≤ (k : Int) := by omega
          have k1 : (k : Int) < (s.size : Int) := by omega
          clear hst
          by_cases q1 : 32 ≤ (s[k]'hlt).toNat
          · by_cases q2 : (s[k]'hlt).toNat ≤ 126
            · have HS2 : Hid ((s.data.toList.drop (k + 1)).all okC = Z) := Lib.hid (by have := HS.out; rw [decide_eq_true q1, decide_eq_true q2, Bool.true_and, Bool.true_and] at this; exact this.symm)
              have p1 : (32 : Int) ≤ ((s[k]'hlt).toNat : Int) := by omega
              have p2 : ((s[k]'hlt).toNat : Int) ≤ 126 := by omega
              go_wp2
              go_roundw
              case rel => exact ⟨k + 1, by omega, by go_num, HS2, trivial⟩
              case measure => simp [intOf]; omega
            · have HS2 : Hid (Z = false) := Lib.hid (by have := HS.out; rw [decide_eq_false q2, Bool.and_false, Bool.false_and] at this; exact this)
              have p1 : (32 : Int) ≤ ((s[k]'hlt).toNat : Int) := by omega
              have p2 : ¬ ((s[k]'hlt).toNat : Int) ≤ 126 := by omega
              go_wp2
              go_ret
              exact ⟨by rw [HS2.out]; rfl, by go_grown⟩
          · have HS2 : Hid (Z = false) := Lib.hid (by have := HS.out; rw [decide_eq_false q1, Bool.false_and, Bool.false_and] at this; exact this)
            have p1 : ¬ (32 : Int) ≤ ((s[k]'hlt).toNat : Int) := by omega
            go_wp2
            go_ret
            exact ⟨by rw [HS2.out]; rfl, by go_grown⟩
        · go_wp2
          go_ret
          refine ⟨?_, by go_grown⟩
          have := HI.out
          rw [List.drop_of_length_le (by rw [Array.length_toList]; show s.size ≤ k; omega)] at this
          rw [← this]; rfl
    · have z1 : ¬ (s.size : Int) ≤ 30 := by omega
      go_enter Try.func101, Try.ntmps101
      go_wp2
      go_ret
      exact ⟨by simp [h1], by go_grown⟩
  · go_enter Try.func101, Try.ntmps101
    go_wp2
    go_ret
    exact ⟨by simp [h0], by go_grown⟩
theorem rvalid_any (v : V3) (w : World) (hs : v.2.2.size ≤ 9223372036854775807) : Calls Try.prog 101 #[agV v.1 v.2.1 v.2.2] w fun e w' => e = .returned (.bool (validV v)) ∧ Below w.heap.size w w' := by
  obtain ⟨k, n, s⟩ := v
  show Calls Try.prog 101 #[agV k n s] w _
  unfold validV
  by_cases h1 : k = 1
  · subst h1; exact rvalid1 n s w
  by_cases h2 : k = 2
  · subst h2; exact rvalid2 n s w hs
  by_cases h3 : k = 3
  · subst h3; exact rvalid3 n s w
  by_cases h4 : k = 4
  · subst h4; exact rvalid4 n s w
  rw [if_neg h1, if_neg h2, if_neg h3, if_neg h4]
  exact rvalid_else k n s w h1 h2 h3 h4
theorem allV_step (l : List V3) (k : Nat) (v : V3) (h : l[k]? = some v) : allV (l.drop k) = (validV v && allV (l.drop (k + 1))) := by
  have hk := (List.getElem?_eq_some_iff.1 h)
  rw [List.drop_eq_getElem_cons hk.1, hk.2]; rfl
set_option maxRecDepth 20000 in
theorem rall_any (l : List V3) (s : Value) (w : World) (hl : l.length ≤ 2000000) (hz : SzL l) (hs : Vs w s l) : Calls Try.prog 83 #[s] w fun e w' => e = .returned (.bool (allV l)) ∧ Below w.heap.size w w' := by
  obtain ⟨Z, hZ⟩ : ∃ c, allV l = c := ⟨_, rfl⟩
  have HZ := Lib.hid hZ
  have HV := Lib.hid hs
  have HSZ := Lib.hid hz
  obtain ⟨ad, cap, rfl⟩ := hs.form
  obtain ⟨n, hn⟩ : ∃ n, n = l.length := ⟨_, rfl⟩
  have HN := Lib.hid hn
  rw [hZ]
  rw [← hn] at hl ⊢
  clear hs hZ hn hz
  go_enter Try.func83, Try.ntmps83
  go_wp2
  go_loopw [3] (fun i wr => ∃ k : Nat, k ≤ n ∧ i = .int .i64 k ∧ Hid (allV (l.drop k) = Z) ∧ Below w.heap.size w wr) (fun i _ => n - (intOf i).toNat)
  case atStart => exact ⟨0, Nat.zero_le _, rfl, Lib.hid HZ.out, Below.refl _ _⟩
  case round =>
    obtain ⟨k, hk, rfl, HI, hL⟩ := hrel
    by_cases hlt : k < n
    · have h10 : ¬ l.length = 0 := by rw [← HN.out]; omega
      obtain ⟨g, off, cap, hsl, hc⟩ := HV.out.open h10
      simp only [Value.slice.injEq] at hsl
      obtain ⟨rfl, _, rfl⟩ := hsl
      obtain ⟨⟨a, b, t⟩, ht⟩ : ∃ t, l[k]? = some t := ⟨_, List.getElem?_eq_getElem (by rw [← HN.out]; exact hlt)⟩
      obtain ⟨c0, c1, c2⟩ := vs_get hc ht
      have d0 := cell_kept c0 hL
      have d1 := cell_kept c1 hL
      have d2 := cell_kept c2 hL
      have hst := allV_step l k _ ht
      rw [HI.out] at hst
      have HB := fun W => rvalid_any (a, b, t) W (HSZ.out _ (List.mem_of_getElem? ht))
      generalize validV (a, b, t) = z at HB hst
      have HS := Lib.hid hst
      have k0 : (0 : Int) ≤ (k : Int) := by omega
      have k1 : (k : Int) < (n : Int) := by omega
      clear ht hst c0 c1 c2 hc
      cases z
      · go_wp2_with (go_at_call 101; (with_reducible refine (HB _).mono ?_); rintro e w1 ⟨rfl, hb⟩; have hL2 := bstep hL hb; clear hb)
        go_ret
        exact ⟨by rw [HS.out, Bool.false_and]; rfl, hL2⟩
      · go_wp2_with (go_at_call 101; (with_reducible refine (HB _).mono ?_); rintro e w1 ⟨rfl, hb⟩; have hL2 := bstep hL hb; clear hb)
        go_roundw
        case rel => exact ⟨k + 1, by omega, by go_num, Lib.hid (by have := HS.out; rw [Bool.true_and] at this; exact this.symm), hL2⟩
        case measure => simp [intOf]; omega
    · go_wp2
      go_ret
      refine ⟨?_, hL⟩
      have := HI.out
      rw [List.drop_of_length_le (by rw [← HN.out]; omega)] at this
      rw [← this]; rfl
end Go.Proofs.Ytokbipfkpojflaa.Va
