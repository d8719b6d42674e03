/-
  The walks of layer 18's Name, of the program civiltime.
-/
import Derived.Test.YtokbipfkpojflaaDoorLxR
set_option linter.unusedSimpArgs false
set_option linter.unusedVariables false
namespace Go.Proofs.YtokbipfkpojflaaDoor.Lx
open Go.RowKit Go.ChangeShapes Go.WideShapes Go.Proofs.YtokbipfkpojflaaDoor.Sl

/-- A byte is a letter. -/
def letB (x : Nat) : Bool := (decide (65 ≤ x) && decide (x ≤ 90)) || (decide (97 ≤ x) && decide (x ≤ 122))
theorem letter_any (x : Nat) (w : World) : Calls Tryd.prog 50 #[.int .u8 x] w fun e w' => e = .returned (.bool (letB x)) ∧ w = w' := by
  unfold letB
  by_cases h1 : 65 ≤ x
  · by_cases h2 : x ≤ 90
    · go_enter Tryd.func50, Tryd.ntmps50
      go_wp2
      go_ret
      exact ⟨by simp [h1, h2], rfl⟩
    · by_cases h3 : 97 ≤ x
      · go_enter Tryd.func50, Tryd.ntmps50
        go_wp2
        go_ret
        exact ⟨by simp [h1, h2, h3] <;> first | omega | (rw [Bool.eq_iff_iff]; simp; omega), rfl⟩
      · go_enter Tryd.func50, Tryd.ntmps50
        go_wp2
        go_ret
        exact ⟨by simp [h1, h2, h3] <;> first | omega | (rw [Bool.eq_iff_iff]; simp; omega), rfl⟩
  · have h3 : ¬ 97 ≤ x := by omega
    go_enter Tryd.func50, Tryd.ntmps50
    go_wp2
    go_ret
    exact ⟨by simp [h1, h3], rfl⟩
theorem letter_is (x : Nat) (b : Bool) (w : World) (h : letB x = b) : Calls Tryd.prog 50 #[.int .u8 x] w fun e w' => e = .returned (.bool b) ∧ w = w' := by
  rw [← h]; exact letter_any x w
theorem digit_is (x : Nat) (b : Bool) (w : World) (h : dgB x = b) : Calls Tryd.prog 51 #[.int .u8 x] w fun e w' => e = .returned (.bool b) ∧ w = w' := by
  rw [← h]; exact digit_any x w
/-- The place among the signs that a name may bear. -/
def symI (c : UInt8) : Int := Lib.indexByte [95, 47, 43, 45] c
theorem sym_is (c : UInt8) (k : Int) (w : World) (h : symI c = k) : Calls Tryd.prog 52 #[.string ⟨#[95, 47, 43, 45]⟩, .int .u8 c.toNat] w fun e w' => e = .returned (.int .i64 k) ∧ w = w' := by
  subst h
  refine (Tryd.strings_IndexByte ⟨#[95, 47, 43, 45]⟩ c.toNat w).mono ?_
  rintro e w' ⟨rfl, rfl⟩
  refine ⟨?_, rfl⟩
  have : ((c.toNat : Int)).toNat.toUInt8 = c := by
    rw [Int.toNat_natCast]; exact UInt8.ofNat_toNat
  rw [this]
  rfl
def okN (c : UInt8) : Bool := letB c.toNat || dgB c.toNat || decide (c.toNat = 95 ∨ c.toNat = 47 ∨ c.toNat = 43 ∨ c.toNat = 45)
theorem sym_cases (c : UInt8) : (symI c < 0 ∧ (¬ c.toNat = 95 ∧ ¬ c.toNat = 47 ∧ ¬ c.toNat = 43 ∧ ¬ c.toNat = 45)) ∨ (0 ≤ symI c ∧ (c.toNat = 95 ∨ c.toNat = 47 ∨ c.toNat = 43 ∨ c.toNat = 45)) := by
  by_cases h1 : c = 95
  · right; subst h1; exact ⟨by decide, by decide⟩
  by_cases h2 : c = 47
  · right; subst h2; exact ⟨by decide, by decide⟩
  by_cases h3 : c = 43
  · right; subst h3; exact ⟨by decide, by decide⟩
  by_cases h4 : c = 45
  · right; subst h4; exact ⟨by decide, by decide⟩
  · left
    refine ⟨?_, fun e => h1 (UInt8.toNat_inj.1 e), fun e => h2 (UInt8.toNat_inj.1 e), fun e => h3 (UInt8.toNat_inj.1 e), fun e => h4 (UInt8.toNat_inj.1 e)⟩
    have e1 : ¬ 95 = c := fun e => h1 e.symm
    have e2 : ¬ 47 = c := fun e => h2 e.symm
    have e3 : ¬ 43 = c := fun e => h3 e.symm
    have e4 : ¬ 45 = c := fun e => h4 e.symm
    simp [symI, Lib.indexByte, h1, h2, h3, h4, e1, e2, e3, e4]

/-- A text is a name. -/
def nameL (l : List UInt8) : Bool := match l with
  | [] => false
  | c :: r => decide (r.length < 30) && letB c.toNat && (c :: r).all okN
theorem nameL_long (s : ByteArray) (h : 30 < s.size) : nameL s.data.toList = false := by
  have e := len_is s
  cases hd : s.data.toList with
  | nil => rfl
  | cons c r =>
    rw [hd] at e
    simp only [List.length_cons] at e
    simp [nameL, show ¬ r.length < 30 by omega]
theorem nameL_head (s : ByteArray) (c : UInt8) (h : 0 < s.size) (hg : ∀ hh : 0 < s.size, s[0] = c) (hs : ¬ 30 < s.size) : nameL s.data.toList = (letB c.toNat && s.data.toList.all okN) := by
  obtain ⟨c', h1, h2⟩ := byte_at s 0 h
  rw [List.drop_zero] at h2
  have hcc : c' = c := h1.symm.trans (hg h)
  subst hcc
  have e := len_is s
  rw [h2] at e ⊢
  simp only [List.length_cons] at e
  have hl : decide ((List.drop (0 + 1) s.data.toList).length < 30) = true := decide_eq_true (by omega)
  show (decide ((List.drop (0 + 1) s.data.toList).length < 30) && letB c'.toNat && _) = _
  rw [hl, Bool.true_and]

set_option maxRecDepth 20000 in
theorem name_any (s : ByteArray) (w : World) : Calls Tryd.prog 22 #[.string s] w fun e w' => e = .returned (.bool (nameL s.data.toList)) ∧ w = w' := by
  by_cases h0 : s.size = 0
  · obtain rfl := nil_of s h0
    go_enter Tryd.func22, Tryd.ntmps22
    go_wp2
    go_ret
    exact ⟨rfl, rfl⟩
  have hp : 0 < s.size := by omega
  by_cases hbig : 30 < s.size
  · rw [nameL_long s hbig]
    go_enter Tryd.func22, Tryd.ntmps22
    go_wp2
    go_ret
    exact ⟨rfl, rfl⟩
  obtain ⟨c, hg, _⟩ := byte_at s 0 hp
  rw [nameL_head s c hp (fun _ => hg) hbig]
  cases hl : letB c.toNat
  · go_enter Tryd.func22, Tryd.ntmps22
    go_wp2_with (go_at_call 50; ((with_reducible refine (letter_is _ _ _ hl).mono ?_); rintro e w1 ⟨rfl, rfl⟩))
    go_ret
    exact ⟨rfl, rfl⟩
  · rw [Bool.true_and]
    have HL := Lib.hid hl
    go_enter Tryd.func22, Tryd.ntmps22
    go_wp2_with (go_at_call 50; ((with_reducible refine (letter_is _ _ _ HL.out).mono ?_); rintro e w1 ⟨rfl, rfl⟩))
    clear hg hl
    go_loopw [20] (fun i wr => ∃ k : Nat, k ≤ s.size ∧ i = .int .i64 k ∧ s.data.toList.all okN = (s.data.toList.drop k).all okN ∧ wr = w) (fun i _ => s.size - (intOf i).toNat)
    case atStart => exact ⟨0, Nat.zero_le _, rfl, rfl, rfl⟩
    case round =>
      obtain ⟨k, hk, rfl, hf, rfl⟩ := hrel
      have HF := Lib.hid hf
      clear hf
      by_cases hlt : k < s.size
      · obtain ⟨d, hd, hs⟩ := byte_at s k hlt
        have HS := Lib.hid hs
        clear hs
        cases hb : letB d.toNat
        · have HB := Lib.hid hb
          cases hc : dgB d.toNat
          · have HC := Lib.hid hc
            rcases sym_cases d with ⟨h1, h2⟩ | ⟨h1, h2⟩
            · have hn : okN d = false := by simp [okN, hb, hc, h2]
              have HN := Lib.hid hn
              obtain ⟨r, hr⟩ : ∃ r, symI d = r := ⟨_, rfl⟩
              rw [hr] at h1
              have HR := Lib.hid hr
              clear hb hc hr h2 hn
              go_wp2_with (first | (go_at_call 50; ((with_reducible refine (letter_is _ _ _ HB.out).mono ?_); rintro e w1 ⟨rfl, rfl⟩)) | (go_at_call 51; ((with_reducible refine (digit_is _ _ _ HC.out).mono ?_); rintro e w1 ⟨rfl, rfl⟩)) | (go_at_call 52; ((with_reducible refine (sym_is d r _ HR.out).mono ?_); rintro e w1 ⟨rfl, rfl⟩)))
              go_ret
              exact ⟨by rw [HF.out, HS.out]; simp [HN.out], rfl⟩
            · have hn : okN d = true := by simp [okN, hb, hc, h2]
              have HN := Lib.hid hn
              obtain ⟨r, hr⟩ : ∃ r, symI d = r := ⟨_, rfl⟩
              rw [hr] at h1
              have HR := Lib.hid hr
              clear hb hc hr h2 hn
              go_wp2_with (first | (go_at_call 50; ((with_reducible refine (letter_is _ _ _ HB.out).mono ?_); rintro e w1 ⟨rfl, rfl⟩)) | (go_at_call 51; ((with_reducible refine (digit_is _ _ _ HC.out).mono ?_); rintro e w1 ⟨rfl, rfl⟩)) | (go_at_call 52; ((with_reducible refine (sym_is d r _ HR.out).mono ?_); rintro e w1 ⟨rfl, rfl⟩)))
              go_roundw
              case rel => exact ⟨k + 1, by omega, by go_num, by rw [HF.out, HS.out]; simp [HN.out], by first | rfl | trivial⟩
              case measure => simp [intOf]; omega
          · have HC := Lib.hid hc
            have HN := Lib.hid (show okN d = true by simp [okN, hc])
            clear hb hc
            go_wp2_with (first | (go_at_call 50; ((with_reducible refine (letter_is _ _ _ HB.out).mono ?_); rintro e w1 ⟨rfl, rfl⟩)) | (go_at_call 51; ((with_reducible refine (digit_is _ _ _ HC.out).mono ?_); rintro e w1 ⟨rfl, rfl⟩)))
            go_roundw
            case rel => exact ⟨k + 1, by omega, by go_num, by rw [HF.out, HS.out]; simp [HN.out], by first | rfl | trivial⟩
            case measure => simp [intOf]; omega
        · have HB := Lib.hid hb
          have HN := Lib.hid (show okN d = true by simp [okN, hb])
          clear hb
          go_wp2_with (go_at_call 50; ((with_reducible refine (letter_is _ _ _ HB.out).mono ?_); rintro e w1 ⟨rfl, rfl⟩))
          go_roundw
          case rel => exact ⟨k + 1, by omega, by go_num, by rw [HF.out, HS.out]; simp [HN.out], by first | rfl | trivial⟩
          case measure => simp [intOf]; omega
      · go_wp2
        go_ret
        exact ⟨by rw [HF.out, List.drop_eq_nil_of_le (by rw [len_is]; omega)]; rfl, rfl⟩

end Go.Proofs.YtokbipfkpojflaaDoor.Lx
