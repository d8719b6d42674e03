/-
  Layer 18's Number and the reference's, joined; and the walks of the laws LexWords and LexNames.
-/
import Derived.Test.YtokbipfkpojflaaLxB
import Derived.Test.YtokbipfkpojflaaLxN
import Derived.Test.YtokbipfkpojflaaLxW
set_option linter.unusedSimpArgs false
set_option linter.unusedVariables false
namespace Go.Proofs.Ytokbipfkpojflaa.Lx
open Go.RowKit Go.ChangeShapes Go.WideShapes Go.Proofs.Ytokbipfkpojflaa.Sl

theorem numZ_bad (s : ByteArray) (lo hi : Int) (h : wholeL (offT s).data.toList = false ∨ (offNeg s = true ∧ (offT s).data.toList.headD 0 = 48)) : numZ s lo hi = (0, 3) := if_pos h
theorem numZ_ok (s : ByteArray) (lo hi : Int) (h : wholeL (offT s).data.toList = true) (h2 : ¬ (offNeg s = true ∧ (offT s).data.toList.headD 0 = 48)) : numZ s lo hi = numT (offT s) (offNeg s) lo hi := by
  unfold numZ numT
  rw [if_neg (by rw [h]; simp; simpa using h2), if_pos (whole_dg _ h).1]

theorem number_any (s : ByteArray) (lo hi a b : Int) (w : World) (hs : s.size < 4294967281) (h : numZ s lo hi = (a, b)) :
    Calls Try.prog 66 #[.string s, .int .i64 lo, .int .i64 hi] w fun e w' => e = .returned (.tuple #[.int .i64 a, .int .i64 b]) ∧ w = w' := by
  have hsz : (offT s).size < 4294967281 := by have := offT_size s; omega
  have hcut : ∀ w, Calls Try.prog 98 #[.string s, .string ⟨#[45]⟩] w fun e w' => e = .returned (.tuple #[.string (offT s), .bool (offNeg s)]) ∧ w = w' := fun w => cut_any s w
  by_cases h0 : (offT s).size = 0
  · have hb : numZ s lo hi = (0, 3) := numZ_bad s lo hi (.inl (by rw [nil_of _ h0]; rfl))
    obtain ⟨rfl, rfl⟩ := pair_is (h.symm.trans hb)
    exact number_form s _ _ lo hi w hcut (.inl h0)
  have hp : 0 < (offT s).size := by omega
  obtain ⟨c, hg, _⟩ := byte_at (offT s) 0 hp
  obtain ⟨hw, hh⟩ := whole_split (offT s) c hp (fun _ => hg)
  by_cases h48 : c.toNat = 48
  · have hc : c = 48 := UInt8.toNat_inj.1 h48
    by_cases h1 : 1 < (offT s).size
    · have hb : numZ s lo hi = (0, 3) := numZ_bad s lo hi (.inl (by
        rw [← Bool.not_eq_true]; intro e; exact (hw.1 e).1 ⟨h48, h1⟩))
      obtain ⟨rfl, rfl⟩ := pair_is (h.symm.trans hb)
      exact number_form s _ _ lo hi w hcut (.inr ⟨hp, fun _ => hg.trans hc, .inl h1⟩)
    · cases hn : offNeg s
      · have ht : offT s = ⟨#[48]⟩ := by
          obtain ⟨x, hx⟩ := one_of (offT s) (by omega)
          have : x = c := by
            have := hg
            simp only [hx] at this
            exact this
          rw [hx, this, hc]
        have hb := numZ_ok s lo hi (by rw [ht]; rfl) (by rw [hn]; simp)
        rw [hn] at hb hcut
        rw [hb] at h
        exact number_zero s _ lo hi w hcut ht a b h
      · have hb : numZ s lo hi = (0, 3) := numZ_bad s lo hi (.inr ⟨hn, by rw [hh, hc]⟩)
        obtain ⟨rfl, rfl⟩ := pair_is (h.symm.trans hb)
        exact number_form s _ _ lo hi w hcut (.inr ⟨hp, fun _ => hg.trans hc, .inr hn⟩)
  · have hc : ¬ c = 48 := fun e => h48 (by rw [e]; rfl)
    refine number_loop s (offT s) (offNeg s) lo hi w c hsz hcut hp hg h48 a b ?_
    cases hwh : wholeL (offT s).data.toList
    · have hb : numZ s lo hi = (0, 3) := numZ_bad s lo hi (.inl hwh)
      rw [← h, hb, numT, if_neg]
      intro e
      have := hw.2 ⟨fun x => h48 x.1, e⟩
      rw [hwh] at this; cases this
    · rw [← h, numZ_ok s lo hi hwh (fun x => hc (by rw [← hh]; exact x.2))]

theorem minus_bad (s : ByteArray) (c : UInt8) (hp : 0 < s.size) (hg : s[0] = c) (h45 : c.toNat = 45) : wholeL s.data.toList = false := by
  rw [← Bool.not_eq_true]
  intro e
  have hd := (whole_dg _ e).1
  obtain ⟨c', h1, h2⟩ := byte_at s 0 hp
  rw [List.drop_zero] at h2
  rw [h2] at hd
  simp only [allDg, List.all_cons, Bool.and_eq_true] at hd
  have := dg_lt _ hd.1
  rw [← h1, hg] at this
  omega

theorem rnumber_any (s : ByteArray) (lo hi a b : Int) (w : World) (hs : s.size < 4294967281) (h : numZ s lo hi = (a, b)) :
    Calls Try.prog 76 #[.string s, .int .i64 lo, .int .i64 hi] w fun e w' => e = .returned (.tuple #[.int .i64 a, .int .i64 b]) ∧ w = w' := by
  rcases off_cases s with ⟨h0, hn, hT⟩ | ⟨h0, c, hg, ⟨hc, hn, hT⟩ | ⟨hc, hn, hT⟩⟩
  · have hw : wholeL s.data.toList = false := by rw [nil_of s h0]; rfl
    have hb : numZ s lo hi = (0, 3) := numZ_bad s lo hi (.inl (by rw [hT]; exact hw))
    obtain ⟨rfl, rfl⟩ := pair_is (h.symm.trans hb)
    exact rnumber_bad s lo hi w hs hw (.inl (by omega))
  · have hw := minus_bad s c h0 (hg h0) hc
    by_cases h1 : 1 < s.size
    · obtain ⟨d, hd, hdr⟩ := byte_at s 1 h1
      have hTl : (offT s).data.toList = d :: s.data.toList.drop 2 := by rw [← hT, ext_tail]; exact hdr
      by_cases h48 : d.toNat = 48
      · have hb : numZ s lo hi = (0, 3) := numZ_bad s lo hi (.inr ⟨hn, by rw [hTl]; exact UInt8.toNat_inj.1 h48⟩)
        obtain ⟨rfl, rfl⟩ := pair_is (h.symm.trans hb)
        exact rnumber_bad s lo hi w hs hw (.inr ⟨h1, c, hg, .inr ⟨hc, d, fun _ => hd, h48⟩⟩)
      · have hsz : (offT s).size < 4294967281 := by have := offT_size s; omega
        cases hwh : wholeL (offT s).data.toList
        · have hb : numZ s lo hi = (0, 3) := numZ_bad s lo hi (.inl hwh)
          obtain ⟨rfl, rfl⟩ := pair_is (h.symm.trans hb)
          exact rnumber_badneg s _ c d h1 (hg h0) hd hc h48 hT lo hi w hsz hwh
        · refine rnumber_neg s _ c d h1 (hg h0) hd hc h48 hT lo hi w hsz hwh a b ?_
          rw [← h, numZ_ok s lo hi hwh (fun x => h48 (by have := x.2; rw [hTl] at this; simp at this; rw [this]; rfl)), hn]
    · have hb : numZ s lo hi = (0, 3) := numZ_bad s lo hi (.inl (by
        have : (offT s).size = 0 := by rw [← hT, ByteArray.size_extract]; omega
        rw [nil_of _ this]; rfl))
      obtain ⟨rfl, rfl⟩ := pair_is (h.symm.trans hb)
      exact rnumber_bad s lo hi w hs hw (.inl (by omega))
  · cases hwh : wholeL s.data.toList
    · have hb : numZ s lo hi = (0, 3) := numZ_bad s lo hi (.inl (by rw [hT]; exact hwh))
      obtain ⟨rfl, rfl⟩ := pair_is (h.symm.trans hb)
      refine rnumber_bad s lo hi w hs hwh ?_
      by_cases h1 : 1 < s.size
      · exact .inr ⟨h1, c, hg, .inl hc⟩
      · exact .inl (by omega)
    · have hb := numZ_ok s lo hi (by rw [hT]; exact hwh) (by rw [hn]; simp)
      rw [hT, hn] at hb
      rw [hb] at h
      by_cases h1 : 1 < s.size
      · exact rnumber_many s h1 lo hi w hs hwh a b h
      · exact rnumber_one s (by omega) lo hi w hs hwh a b h

theorem name_is (s : ByteArray) (b : Bool) (w : World) (h : nameL s.data.toList = b) : Calls Try.prog 44 #[.string s] w fun e w' => e = .returned (.bool b) ∧ w = w' := by
  rw [← h]; exact name_any s w
theorem rname_is (s : ByteArray) (b : Bool) (w : World) (h : nameL s.data.toList = b) : Calls Try.prog 47 #[.string s] w fun e w' => e = .returned (.bool b) ∧ w = w' := by
  rw [← h]; exact rname_any s w

theorem rfind_is (l : List ByteArray) (b c : Nat) (x : ByteArray) (w : World) (hl : l.length ≤ 1000) (hc : At w b l) (n : Nat) (hn : n = l.length) (p q : Int) (h : findZ l x = (p, q)) :
    Calls Try.prog 73 #[.slice (some ⟨b, 0, none⟩) n c, .string x] w fun e w' => e = .returned (.tuple #[.int .i64 p, .int .i64 q]) ∧ w = w' := by
  have := rfind_any l b c x w hl hc n hn
  rw [h] at this
  exact this
end Go.Proofs.Ytokbipfkpojflaa.Lx
