/-
  The walks of layer 18's Number, of the program civiltime.
-/
import Derived.Test.YtokbipfkpojflaaDoorLxM
import Derived.Test.YtokbipfkpojflaaDoorLxT
set_option linter.unusedSimpArgs false
set_option linter.unusedVariables false
namespace Go.Proofs.YtokbipfkpojflaaDoor.Lx
open Go.RowKit Go.ChangeShapes Go.WideShapes Go.Proofs.YtokbipfkpojflaaDoor.Sl

/-- Digits collected as a negative number, if there is one. -/
def negF : List UInt8 → Int → Option Int
  | [], n => some n
  | c :: cs, n => if n < (-9223372036854775808 + ((c.toNat : Int) - 48)).tdiv 10 then none else negF cs (10 * n - ((c.toNat : Int) - 48))
theorem tdiv_is (d : Int) (h0 : 0 ≤ d) (h9 : d ≤ 9) : (-9223372036854775808 + d).tdiv 10 = -((9223372036854775808 - d) / 10) := by
  rw [show -9223372036854775808 + d = -(9223372036854775808 - d) by omega, Int.neg_tdiv, Int.tdiv_eq_ediv_of_nonneg (by omega)]
theorem negF_step (d n : Int) (h0 : 0 ≤ d) (h9 : d ≤ 9) (hn : -9223372036854775808 ≤ n) (hn0 : n ≤ 0) (h : ¬ n < (-9223372036854775808 + d).tdiv 10) : -9223372036854775808 ≤ 10 * n - d ∧ 10 * n - d ≤ 0 := by
  rw [tdiv_is d h0 h9] at h
  omega
def numR (neg : Bool) (o : Option Int) (lo hi : Int) : Int × Int := match o with
  | none => (0, 2)
  | some n => if neg = false ∧ n = -9223372036854775808 then (0, 2) else if (if neg then n else -n) < lo ∨ hi < (if neg then n else -n) then (0, 2) else ((if neg then n else -n), 0)
/-- The number that a text stands for between two others, and the error's number. -/
def numZ (s : ByteArray) (lo hi : Int) : Int × Int :=
  if wholeL (offT s).data.toList = false ∨ (offNeg s = true ∧ (offT s).data.toList.headD 0 = 48) then (0, 3) else numR (offNeg s) (negF (offT s).data.toList 0) lo hi
theorem negF_bd : ∀ (l : List UInt8) (n r : Int), allDg l = true → -9223372036854775808 ≤ n → n ≤ 0 → negF l n = some r → -9223372036854775808 ≤ r ∧ r ≤ 0
  | [], n, r, _, h1, h2, h => by simp [negF] at h; subst h; exact ⟨h1, h2⟩
  | c :: cs, n, r, hd, h1, h2, h => by
    simp only [allDg, List.all_cons, Bool.and_eq_true] at hd
    have hc := dg_lt c hd.1
    unfold negF at h
    split at h
    · cases h
    next hlt =>
      obtain ⟨a, b⟩ := negF_step ((c.toNat : Int) - 48) n (by omega) (by omega) h1 h2 hlt
      exact negF_bd cs _ r hd.2 a b h
theorem whole_split (t : ByteArray) (c : UInt8) (h : 0 < t.size) (hg : ∀ hh : 0 < t.size, t[0] = c) : (wholeL t.data.toList = true ↔ (¬ (c.toNat = 48 ∧ 1 < t.size) ∧ allDg t.data.toList = true)) ∧ t.data.toList.headD 0 = c := by
  constructor
  · rw [whole_cons t c h hg]
    simp [Bool.and_eq_true]
    intro _
    constructor
    · intro a b; rcases a with a | a; exact absurd b a; exact a
    · intro a
      by_cases hb : c.toNat = 48
      · exact .inr (a hb)
      · exact .inl hb
  · obtain ⟨c', h1, h2⟩ := byte_at t 0 h
    rw [List.drop_zero] at h2
    rw [h2, ← h1]
    exact hg h

/-- What the loop keeps. -/
def nInv (l : List UInt8) (k : Nat) (n : Int) (b : Bool) : Prop := match b with
  | true => allDg l = true → negF l 0 = none
  | false => negF l 0 = negF (l.drop k) n
theorem nInv_great (l : List UInt8) (k : Nat) (n : Int) (d : UInt8) (hs : l.drop k = d :: l.drop (k + 1)) (h : nInv l k n false) (hq : n < (-9223372036854775808 + ((d.toNat : Int) - 48)).tdiv 10) : nInv l (k + 1) n true := by
  intro _
  rw [show negF l 0 = negF (l.drop k) n from h, hs, negF, if_pos hq]
theorem nInv_next (l : List UInt8) (k : Nat) (n : Int) (d : UInt8) (hs : l.drop k = d :: l.drop (k + 1)) (h : nInv l k n false) (hq : ¬ n < (-9223372036854775808 + ((d.toNat : Int) - 48)).tdiv 10) : nInv l (k + 1) (10 * n - ((d.toNat : Int) - 48)) false := by
  show negF l 0 = _
  rw [show negF l 0 = negF (l.drop k) n from h, hs, negF, if_neg hq]
theorem nInv_end (l : List UInt8) (k : Nat) (n : Int) (hk : l.length ≤ k) (h : nInv l k n false) : negF l 0 = some n := by
  rw [show negF l 0 = negF (l.drop k) n from h, List.drop_eq_nil_of_le hk]; rfl
def numT (t : ByteArray) (neg : Bool) (lo hi : Int) : Int × Int := if allDg t.data.toList = true then numR neg (negF t.data.toList 0) lo hi else (0, 3)
theorem pair_is {a b c d : Int} (h : (a, b) = (c, d)) : a = c ∧ b = d := by cases h; exact ⟨rfl, rfl⟩

set_option maxRecDepth 20000 in
set_option maxHeartbeats 1000000 in
theorem number_loop (s t : ByteArray) (neg : Bool) (lo hi : Int) (w : World) (c : UInt8) (hts : t.size < 4294967281)
    (hcut : ∀ w, Calls Tryd.prog 53 #[.string s, .string ⟨#[45]⟩] w fun e w' => e = .returned (.tuple #[.string t, .bool neg]) ∧ w = w') (h0 : 0 < t.size) (hg : t[0] = c)
    (h48 : ¬ c.toNat = 48) (a b : Int) (hR : numT t neg lo hi = (a, b)) :
    Calls Tryd.prog 33 #[.string s, .int .i64 lo, .int .i64 hi] w fun e w' => e = .returned (.tuple #[.int .i64 a, .int .i64 b]) ∧ w = w' := by
  have hne := not_nil t h0
  have HCUT := Lib.hid hcut
  have HR := Lib.hid hR
  clear hcut hR
  have h48b : ((c.toNat : Int) == 48) = false := by simp; omega
  go_enter Tryd.func33, Tryd.ntmps33
  go_wp2_with (go_at_call 53; ((with_reducible refine (HCUT.out _).mono ?_); rintro e w1 ⟨rfl, rfl⟩))
  clear hg hne h48 h48b
  go_loopw [36, 10, 11] (fun i x g wr => ∃ k : Nat, ∃ n : Int, ∃ b : Bool, k ≤ t.size ∧ i = .int .i64 k ∧ x = .int .i64 n ∧ g = .bool b ∧ allDg t.data.toList = allDg (t.data.toList.drop k) ∧ -9223372036854775808 ≤ n ∧ n ≤ 0 ∧ nInv t.data.toList k n b ∧ wr = w) (fun i _ _ _ => t.size - (intOf i).toNat)
  case atStart => exact ⟨0, 0, false, Nat.zero_le _, rfl, rfl, rfl, rfl, by omega, by omega, rfl, rfl⟩
  case round =>
    obtain ⟨k, n, g, hk, rfl, rfl, rfl, hf, hn, hn0, hb, rfl⟩ := hrel
    have HF := Lib.hid hf
    have HB := Lib.hid hb
    clear hf hb
    by_cases hlt : k < t.size
    · obtain ⟨d, hd, hs⟩ := byte_at t k hlt
      have HS := Lib.hid hs
      clear hs
      cases hx : dgB d.toNat
      · have HX := Lib.hid hx
        obtain ⟨rfl, rfl⟩ := pair_is (show (a, b) = (0, 3) by rw [← HR.out, numT, if_neg (by rw [HF.out, HS.out]; simp [allDg, hx])])
        clear hx
        go_wp2_with (go_at_call 51; ((with_reducible refine (digit_is _ _ _ HX.out).mono ?_); rintro e w1 ⟨rfl, rfl⟩))
        go_ret2
        exact ⟨rfl, rfl⟩
      · have HX := Lib.hid hx
        obtain ⟨hd1, hd2⟩ := dg_lt d hx
        have HF2 := Lib.hid (show allDg t.data.toList = allDg (t.data.toList.drop (k + 1)) by rw [HF.out, HS.out]; simp [allDg, hx])
        clear hx
        cases g
        · by_cases hq : n < (-9223372036854775808 + ((d.toNat : Int) - 48)).tdiv 10
          · have HI := Lib.hid (nInv_great _ _ _ _ HS.out HB.out hq)
            have hqb : decide (n < (-9223372036854775808 + ((d.toNat : Int) - 48)).tdiv 10) = true := decide_eq_true hq
            go_wp2_with (go_at_call 51; ((with_reducible refine (digit_is _ _ _ HX.out).mono ?_); rintro e w1 ⟨rfl, rfl⟩))
            go_roundw
            case rel => exact ⟨k + 1, n, true, by omega, by go_num, rfl, by first | rfl | simp [hq], HF2.out, hn, hn0, HI.out, by first | rfl | trivial⟩
            case measure => simp [intOf]; omega
          · have HI := Lib.hid (nInv_next _ _ _ _ HS.out HB.out hq)
            have hqb : decide (n < (-9223372036854775808 + ((d.toNat : Int) - 48)).tdiv 10) = false := decide_eq_false hq
            obtain ⟨s1, s2⟩ := negF_step _ n (by omega) (by omega) hn hn0 hq
            go_wp2_with (go_at_call 51; ((with_reducible refine (digit_is _ _ _ HX.out).mono ?_); rintro e w1 ⟨rfl, rfl⟩))
            go_roundw
            case rel => exact ⟨k + 1, 10 * n - ((d.toNat : Int) - 48), false, by omega, by go_num, by go_num, by first | rfl | simp [hq], HF2.out, s1, s2, HI.out, by first | rfl | trivial⟩
            case measure => simp [intOf]; omega
        · have HI := Lib.hid (show nInv t.data.toList (k + 1) n true from HB.out)
          go_wp2_with (go_at_call 51; ((with_reducible refine (digit_is _ _ _ HX.out).mono ?_); rintro e w1 ⟨rfl, rfl⟩))
          go_roundw
          case rel => exact ⟨k + 1, n, true, by omega, by go_num, rfl, rfl, HF2.out, hn, hn0, HI.out, by first | rfl | trivial⟩
          case measure => simp [intOf]; omega
    · have hall : allDg t.data.toList = true := by rw [HF.out, List.drop_eq_nil_of_le (by rw [len_is]; omega)]; rfl
      have HA := Lib.hid hall
      clear hall
      cases g
      · have HE := Lib.hid (nInv_end _ _ _ (by rw [len_is]; omega) HB.out)
        cases neg
        · by_cases hmin : n = -9223372036854775808
          · obtain ⟨rfl, rfl⟩ := pair_is (show (a, b) = (0, 2) by rw [← HR.out, numT, if_pos HA.out, HE.out]; simp [numR, hmin])
            subst hmin
            go_wp2
            go_ret2
            exact ⟨rfl, rfl⟩
          · have hnb : (n == -9223372036854775808) = false := by simp [hmin]
            by_cases hlo : -n < lo
            · obtain ⟨rfl, rfl⟩ := pair_is (show (a, b) = (0, 2) by rw [← HR.out, numT, if_pos HA.out, HE.out]; simp [numR, hmin, hlo])
              go_wp2
              go_ret2
              exact ⟨rfl, rfl⟩
            · by_cases hhi : hi < -n
              · obtain ⟨rfl, rfl⟩ := pair_is (show (a, b) = (0, 2) by rw [← HR.out, numT, if_pos HA.out, HE.out]; simp [numR, hmin, hhi])
                go_wp2
                go_ret2
                exact ⟨rfl, rfl⟩
              · obtain ⟨rfl, rfl⟩ := pair_is (show (a, b) = (-n, 0) by rw [← HR.out, numT, if_pos HA.out, HE.out]; simp [numR, hmin, hhi, hlo])
                go_wp2
                go_ret2
                exact ⟨by go_num, rfl⟩
        · by_cases hlo : n < lo
          · obtain ⟨rfl, rfl⟩ := pair_is (show (a, b) = (0, 2) by rw [← HR.out, numT, if_pos HA.out, HE.out]; simp [numR, hlo])
            go_wp2
            go_ret2
            exact ⟨rfl, rfl⟩
          · by_cases hhi : hi < n
            · obtain ⟨rfl, rfl⟩ := pair_is (show (a, b) = (0, 2) by rw [← HR.out, numT, if_pos HA.out, HE.out]; simp [numR, hhi])
              go_wp2
              go_ret2
              exact ⟨rfl, rfl⟩
            · obtain ⟨rfl, rfl⟩ := pair_is (show (a, b) = (n, 0) by rw [← HR.out, numT, if_pos HA.out, HE.out]; simp [numR, hhi, hlo])
              go_wp2
              go_ret2
              exact ⟨rfl, rfl⟩
      · have HE := Lib.hid ((show allDg t.data.toList = true → negF t.data.toList 0 = none from HB.out) HA.out)
        obtain ⟨rfl, rfl⟩ := pair_is (show (a, b) = (0, 2) by rw [← HR.out, numT, if_pos HA.out, HE.out]; rfl)
        go_wp2
        go_ret2
        exact ⟨rfl, rfl⟩

set_option maxRecDepth 20000 in
theorem number_zero (s t : ByteArray) (lo hi : Int) (w : World)
    (hcut : ∀ w, Calls Tryd.prog 53 #[.string s, .string ⟨#[45]⟩] w fun e w' => e = .returned (.tuple #[.string t, .bool false]) ∧ w = w') (ht : t = ⟨#[48]⟩) (a b : Int) (hR : numT t false lo hi = (a, b)) :
    Calls Tryd.prog 33 #[.string s, .int .i64 lo, .int .i64 hi] w fun e w' => e = .returned (.tuple #[.int .i64 a, .int .i64 b]) ∧ w = w' := by
  subst ht
  have hl : (⟨#[48]⟩ : ByteArray).size = 1 := rfl
  have g0 : (⟨#[48]⟩ : ByteArray)[0] = 48 := rfl
  have hR2 : (if 0 < lo ∨ hi < 0 then ((0, 2) : Int × Int) else (0, 0)) = (a, b) := by
    rw [← hR]
    rfl
  have HCUT := Lib.hid hcut
  clear hcut hR
  by_cases hlo : 0 < lo
  · rw [if_pos (.inl hlo)] at hR2
    obtain ⟨rfl, rfl⟩ := pair_is hR2
    go_enter Tryd.func33, Tryd.ntmps33
    go_wp2_with (go_at_call 53; ((with_reducible refine (HCUT.out _).mono ?_); rintro e w1 ⟨rfl, rfl⟩))
    refine wp_loop_rounds 2 ?_
    rw [rounds_succ]
    go_wp2_with (go_at_call 51; ((with_reducible refine (digit48 _).mono ?_); rintro e w1 ⟨rfl, rfl⟩))
    rw [rounds_succ]
    go_wp2
    go_ret2
    exact ⟨rfl, rfl⟩
  · by_cases hhi : hi < 0
    · rw [if_pos (.inr hhi)] at hR2
      obtain ⟨rfl, rfl⟩ := pair_is hR2
      go_enter Tryd.func33, Tryd.ntmps33
      go_wp2_with (go_at_call 53; ((with_reducible refine (HCUT.out _).mono ?_); rintro e w1 ⟨rfl, rfl⟩))
      refine wp_loop_rounds 2 ?_
      rw [rounds_succ]
      go_wp2_with (go_at_call 51; ((with_reducible refine (digit48 _).mono ?_); rintro e w1 ⟨rfl, rfl⟩))
      rw [rounds_succ]
      go_wp2
      go_ret2
      exact ⟨rfl, rfl⟩
    · rw [if_neg (by omega)] at hR2
      obtain ⟨rfl, rfl⟩ := pair_is hR2
      go_enter Tryd.func33, Tryd.ntmps33
      go_wp2_with (go_at_call 53; ((with_reducible refine (HCUT.out _).mono ?_); rintro e w1 ⟨rfl, rfl⟩))
      refine wp_loop_rounds 2 ?_
      rw [rounds_succ]
      go_wp2_with (go_at_call 51; ((with_reducible refine (digit48 _).mono ?_); rintro e w1 ⟨rfl, rfl⟩))
      rw [rounds_succ]
      go_wp2
      go_ret2
      exact ⟨rfl, rfl⟩
set_option maxRecDepth 20000 in
theorem number_form (s t : ByteArray) (neg : Bool) (lo hi : Int) (w : World)
    (hcut : ∀ w, Calls Tryd.prog 53 #[.string s, .string ⟨#[45]⟩] w fun e w' => e = .returned (.tuple #[.string t, .bool neg]) ∧ w = w')
    (hf : t.size = 0 ∨ (0 < t.size ∧ (∀ hh : 0 < t.size, t[0] = 48) ∧ (1 < t.size ∨ neg = true))) :
    Calls Tryd.prog 33 #[.string s, .int .i64 lo, .int .i64 hi] w fun e w' => e = .returned (.tuple #[.int .i64 0, .int .i64 3]) ∧ w = w' := by
  have HCUT := Lib.hid hcut
  clear hcut
  rcases hf with h0 | ⟨h0, hg, h⟩
  · obtain rfl := nil_of t h0
    go_enter Tryd.func33, Tryd.ntmps33
    go_wp2_with (go_at_call 53; ((with_reducible refine (HCUT.out _).mono ?_); rintro e w1 ⟨rfl, rfl⟩))
    go_ret2
    exact ⟨rfl, rfl⟩
  · replace hg := hg h0
    have hne := not_nil t h0
    by_cases h1 : 1 < t.size
    · clear h
      go_enter Tryd.func33, Tryd.ntmps33
      go_wp2_with (go_at_call 53; ((with_reducible refine (HCUT.out _).mono ?_); rintro e w1 ⟨rfl, rfl⟩))
      go_ret2
      exact ⟨rfl, rfl⟩
    · obtain rfl : neg = true := by rcases h with h | h; exact absurd h h1; exact h
      clear h
      go_enter Tryd.func33, Tryd.ntmps33
      go_wp2_with (go_at_call 53; ((with_reducible refine (HCUT.out _).mono ?_); rintro e w1 ⟨rfl, rfl⟩))
      go_ret2
      exact ⟨rfl, rfl⟩
end Go.Proofs.YtokbipfkpojflaaDoor.Lx
