/-
  Layer 18's Number and the reference's, joined; and the walks of the laws LexWords and LexNames.
-/
import Derived.Test.YtokbipfkpojflaaDoorLxB
import Derived.Test.YtokbipfkpojflaaDoorLxN
import Derived.Test.YtokbipfkpojflaaDoorLxW
set_option linter.unusedSimpArgs false
set_option linter.unusedVariables false
namespace Go.Proofs.YtokbipfkpojflaaDoor.Lx
open Go.RowKit Go.ChangeShapes Go.WideShapes Go.Proofs.YtokbipfkpojflaaDoor.Sl

theorem numZ_bad (s : ByteArray) (lo hi : Int) (h : wholeL (offT s).data.toList = false ∨ (offNeg s = true ∧ (offT s).data.toList.headD 0 = 48)) : numZ s lo hi = (0, 3) := if_pos h
theorem numZ_ok (s : ByteArray) (lo hi : Int) (h : wholeL (offT s).data.toList = true) (h2 : ¬ (offNeg s = true ∧ (offT s).data.toList.headD 0 = 48)) : numZ s lo hi = numT (offT s) (offNeg s) lo hi := by
  unfold numZ numT
  rw [if_neg (by rw [h]; simp; simpa using h2), if_pos (whole_dg _ h).1]

theorem number_any (s : ByteArray) (lo hi a b : Int) (w : World) (hs : s.size < 4294967281) (h : numZ s lo hi = (a, b)) :
    Calls Tryd.prog 33 #[.string s, .int .i64 lo, .int .i64 hi] w fun e w' => e = .returned (.tuple #[.int .i64 a, .int .i64 b]) ∧ w = w' := by
  have hsz : (offT s).size < 4294967281 := by have := offT_size s; omega
  have hcut : ∀ w, Calls Tryd.prog 53 #[.string s, .string ⟨#[45]⟩] w fun e w' => e = .returned (.tuple #[.string (offT s), .bool (offNeg s)]) ∧ w = w' := fun w => cut_any s w
  by_cases h0 : (offT s).size = 0
  · have hb : numZ s lo hi = (0, 3) := numZ_bad s lo hi (.inl (by rw [nil_of _ h0]; rfl))
    obtain ⟨rfl, rfl⟩ := pair_is (h.symm.trans hb)
    exact number_form s _ _ lo hi w hcut (.inl h0)
  have hp : 0 < (offT s).size := by omega
  obtain ⟨c, hg, _⟩ := byte_at (offT s) 0 hp
  obtain ⟨hw, hh⟩ := whole_split (offT s) c hp (fun _ => hg)
  by_cases h48 : c.toNat = 48
  · have hc : c = 48 := UInt8.toNat_inj.1 h48
    by_cases h1 : 1 < (offT s).size
    · have hb : numZ s lo hi = (0, 3) := numZ_bad s lo hi (.inl (by
        rw [← Bool.not_eq_true]; intro e; exact (hw.1 e).1 ⟨h48, h1⟩))
      obtain ⟨rfl, rfl⟩ := pair_is (h.symm.trans hb)
      exact number_form s _ _ lo hi w hcut (.inr ⟨hp, fun _ => hg.trans hc, .inl h1⟩)
    · cases hn : offNeg s
      · have ht : offT s = ⟨#[48]⟩ := by
          obtain ⟨x, hx⟩ := one_of (offT s) (by omega)
          have : x = c := by
            have := hg
            simp only [hx] at this
            exact this
          rw [hx, this, hc]
        have hb := numZ_ok s lo hi (by rw [ht]; rfl) (by rw [hn]; simp)
        rw [hn] at hb hcut
        rw [hb] at h
        exact number_zero s _ lo hi w hcut ht a b h
      · have hb : numZ s lo hi = (0, 3) := numZ_bad s lo hi (.inr ⟨hn, by rw [hh, hc]⟩)
        obtain ⟨rfl, rfl⟩ := pair_is (h.symm.trans hb)
        exact number_form s _ _ lo hi w hcut (.inr ⟨hp, fun _ => hg.trans hc, .inr hn⟩)
  · have hc : ¬ c = 48 := fun e => h48 (by rw [e]; rfl)
    refine number_loop s (offT s) (offNeg s) lo hi w c hsz hcut hp hg h48 a b ?_
    cases hwh : wholeL (offT s).data.toList
    · have hb : numZ s lo hi = (0, 3) := numZ_bad s lo hi (.inl hwh)
      rw [← h, hb, numT, if_neg]
      intro e
      have := hw.2 ⟨fun x => h48 x.1, e⟩
      rw [hwh] at this; cases this
    · rw [← h, numZ_ok s lo hi hwh (fun x => hc (by rw [← hh]; exact x.2))]

theorem minus_bad (s : ByteArray) (c : UInt8) (hp : 0 < s.size) (hg : s[0] = c) (h45 : c.toNat = 45) : wholeL s.data.toList = false := by
  rw [← Bool.not_eq_true]
  intro e
  have hd := (whole_dg _ e).1
  obtain ⟨c', h1, h2⟩ := byte_at s 0 hp
  rw [List.drop_zero] at h2
  rw [h2] at hd
  simp only [allDg, List.all_cons, Bool.and_eq_true] at hd
  have := dg_lt _ hd.1
  rw [← h1, hg] at this
  omega

theorem name_is (s : ByteArray) (b : Bool) (w : World) (h : nameL s.data.toList = b) : Calls Tryd.prog 22 #[.string s] w fun e w' => e = .returned (.bool b) ∧ w = w' := by
  rw [← h]; exact name_any s w
end Go.Proofs.YtokbipfkpojflaaDoor.Lx
