/-
  Layer 18's Number and the reference's, joined; and the walks of the laws LexWords and LexNames.
-/
import Derived.Test.YtcpfbemmlmdcaaaDoorLxB
import Derived.Test.YtcpfbemmlmdcaaaDoorLxN
import Derived.Test.YtcpfbemmlmdcaaaDoorLxW
set_option linter.unusedSimpArgs false
set_option linter.unusedVariables false
namespace Go.Proofs.YtcpfbemmlmdcaaaDoor.Lx
open Go.RowKit Go.ChangeShapes Go.WideShapes Go.Proofs.YtcpfbemmlmdcaaaDoor.Sl

theorem numZ_bad (s : ByteArray) (lo hi : Int) (h : wholeL (offT s).data.toList = false ∨ (offNeg s = true ∧ (offT s).data.toList.headD 0 = 48)) : numZ s lo hi = (0, 3) := if_pos h
theorem numZ_ok (s : ByteArray) (lo hi : Int) (h : wholeL (offT s).data.toList = true) (h2 : ¬ (offNeg s = true ∧ (offT s).data.toList.headD 0 = 48)) : numZ s lo hi = numT (offT s) (offNeg s) lo hi := by
  unfold numZ numT
  rw [if_neg (by rw [h]; simp; simpa using h2), if_pos (whole_dg _ h).1]

theorem number_any (s : ByteArray) (lo hi a b : Int) (w : World) (hs : s.size < 4294967281) (h : numZ s lo hi = (a, b)) :
    Calls Tryd.prog 31 #[.string s, .int .i64 lo, .int .i64 hi] w fun e w' => e = .returned (.tuple #[.int .i64 a, .int .i64 b]) ∧ w = w' := by
  have hsz : (offT s).size < 4294967281 := by have := offT_size s; omega
  have hcut : ∀ w, Calls Tryd.prog 44 #[.string s, .string ⟨#[45]⟩] w fun e w' => e = .returned (.tuple #[.string (offT s), .bool (offNeg s)]) ∧ w = w' := fun w => cut_any s w
  by_cases h0 : (offT s).size = 0
  · have hb : numZ s lo hi = (0, 3) := numZ_bad s lo hi (.inl (by rw [nil_of _ h0]; rfl))
    obtain ⟨rfl, rfl⟩ := pair_is (h.symm.trans hb)
    exact number_form s _ _ lo hi w hcut (.inl h0)
  have hp : 0 < (offT s).size := by omega
  obtain ⟨c, hg, _⟩ := byte_at (offT s) 0 hp
  obtain ⟨hw, hh⟩ := whole_split (offT s) c hp (fun _ => hg)
  by_cases h48 : c.toNat = 48
  · have hc : c = 48 := UInt8.toNat_inj.1 h48
    by_cases h1 : 1 < (offT s).size
    · have hb : numZ s lo hi = (0, 3) := numZ_bad s lo hi (.inl (by
        rw [← Bool.not_eq_true]; intro e; exact (hw.1 e).1 ⟨h48, h1⟩))
      obtain ⟨rfl, rfl⟩ := pair_is (h.symm.trans hb)
      exact number_form s _ _ lo hi w hcut (.inr ⟨hp, fun _ => hg.trans hc, .inl h1⟩)
    · cases hn : offNeg s
      · have ht : offT s = ⟨#[48]⟩ := by
          obtain ⟨x, hx⟩ := one_of (offT s) (by omega)
          have : x = c := by
            have := hg
            simp only [hx] at this
            exact this
          rw [hx, this, hc]
        have hb := numZ_ok s lo hi (by rw [ht]; rfl) (by rw [hn]; simp)
        rw [hn] at hb hcut
        rw [hb] at h
        exact number_zero s _ lo hi w hcut ht a b h
      · have hb : numZ s lo hi = (0, 3) := numZ_bad s lo hi (.inr ⟨hn, by rw [hh, hc]⟩)
        obtain ⟨rfl, rfl⟩ := pair_is (h.symm.trans hb)
        exact number_form s _ _ lo hi w hcut (.inr ⟨hp, fun _ => hg.trans hc, .inr hn⟩)
  · have hc : ¬ c = 48 := fun e => h48 (by rw [e]; rfl)
    refine number_loop s (offT s) (offNeg s) lo hi w c hsz hcut hp hg h48 a b ?_
    cases hwh : wholeL (offT s).data.toList
    · have hb : numZ s lo hi = (0, 3) := numZ_bad s lo hi (.inl hwh)
      rw [← h, hb, numT, if_neg]
      intro e
      have := hw.2 ⟨fun x => h48 x.1, e⟩
      rw [hwh] at this; cases this
    · rw [← h, numZ_ok s lo hi hwh (fun x => hc (by rw [← hh]; exact x.2))]

theorem minus_bad (s : ByteArray) (c : UInt8) (hp : 0 < s.size) (hg : s[0] = c) (h45 : c.toNat = 45) : wholeL s.data.toList = false := by
  rw [← Bool.not_eq_true]
  intro e
  have hd := (whole_dg _ e).1
  obtain ⟨c', h1, h2⟩ := byte_at s 0 hp
  rw [List.drop_zero] at h2
  rw [h2] at hd
  simp only [allDg, List.all_cons, Bool.and_eq_true] at hd
  have := dg_lt _ hd.1
  rw [← h1, hg] at this
  omega

theorem rnumber_any (s : ByteArray) (lo hi a b : Int) (w : World) (hs : s.size < 4294967281) (h : numZ s lo hi = (a, b)) :
    Calls Tryd.prog 32 #[.string s, .int .i64 lo, .int .i64 hi] w fun e w' => e = .returned (.tuple #[.int .i64 a, .int .i64 b]) ∧ w = w' := by
  rcases off_cases s with ⟨h0, hn, hT⟩ | ⟨h0, c, hg, ⟨hc, hn, hT⟩ | ⟨hc, hn, hT⟩⟩
  · have hw : wholeL s.data.toList = false := by rw [nil_of s h0]; rfl
    have hb : numZ s lo hi = (0, 3) := numZ_bad s lo hi (.inl (by rw [hT]; exact hw))
    obtain ⟨rfl, rfl⟩ := pair_is (h.symm.trans hb)
    exact rnumber_bad s lo hi w hs hw (.inl (by omega))
  · have hw := minus_bad s c h0 (hg h0) hc
    by_cases h1 : 1 < s.size
    · obtain ⟨d, hd, hdr⟩ := byte_at s 1 h1
      have hTl : (offT s).data.toList = d :: s.data.toList.drop 2 := by rw [← hT, ext_tail]; exact hdr
      by_cases h48 : d.toNat = 48
      · have hb : numZ s lo hi = (0, 3) := numZ_bad s lo hi (.inr ⟨hn, by rw [hTl]; exact UInt8.toNat_inj.1 h48⟩)
        obtain ⟨rfl, rfl⟩ := pair_is (h.symm.trans hb)
        exact rnumber_bad s lo hi w hs hw (.inr ⟨h1, c, hg, .inr ⟨hc, d, fun _ => hd, h48⟩⟩)
      · have hsz : (offT s).size < 4294967281 := by have := offT_size s; omega
        cases hwh : wholeL (offT s).data.toList
        · have hb : numZ s lo hi = (0, 3) := numZ_bad s lo hi (.inl hwh)
          obtain ⟨rfl, rfl⟩ := pair_is (h.symm.trans hb)
          exact rnumber_badneg s _ c d h1 (hg h0) hd hc h48 hT lo hi w hsz hwh
        · refine rnumber_neg s _ c d h1 (hg h0) hd hc h48 hT lo hi w hsz hwh a b ?_
          rw [← h, numZ_ok s lo hi hwh (fun x => h48 (by have := x.2; rw [hTl] at this; simp at this; rw [this]; rfl)), hn]
    · have hb : numZ s lo hi = (0, 3) := numZ_bad s lo hi (.inl (by
        have : (offT s).size = 0 := by rw [← hT, ByteArray.size_extract]; omega
        rw [nil_of _ this]; rfl))
      obtain ⟨rfl, rfl⟩ := pair_is (h.symm.trans hb)
      exact rnumber_bad s lo hi w hs hw (.inl (by omega))
  · cases hwh : wholeL s.data.toList
    · have hb : numZ s lo hi = (0, 3) := numZ_bad s lo hi (.inl (by rw [hT]; exact hwh))
      obtain ⟨rfl, rfl⟩ := pair_is (h.symm.trans hb)
      refine rnumber_bad s lo hi w hs hwh ?_
      by_cases h1 : 1 < s.size
      · exact .inr ⟨h1, c, hg, .inl hc⟩
      · exact .inl (by omega)
    · have hb := numZ_ok s lo hi (by rw [hT]; exact hwh) (by rw [hn]; simp)
      rw [hT, hn] at hb
      rw [hb] at h
      by_cases h1 : 1 < s.size
      · exact rnumber_many s h1 lo hi w hs hwh a b h
      · exact rnumber_one s (by omega) lo hi w hs hwh a b h

theorem name_is (s : ByteArray) (b : Bool) (w : World) (h : nameL s.data.toList = b) : Calls Tryd.prog 33 #[.string s] w fun e w' => e = .returned (.bool b) ∧ w = w' := by
  rw [← h]; exact name_any s w
theorem rname_is (s : ByteArray) (b : Bool) (w : World) (h : nameL s.data.toList = b) : Calls Tryd.prog 34 #[.string s] w fun e w' => e = .returned (.bool b) ∧ w = w' := by
  rw [← h]; exact rname_any s w

set_option maxRecDepth 20000 in
theorem lexWords_walk (s : ByteArray) (lo hi : Int) (m : Int) (w : World) (hm : w.cell? ⟨0, 0, none⟩ = some (.int .i64 m)) :
    Calls Tryd.prog 8 #[.string s, .int .i64 lo, .int .i64 hi] w fun e w' => e = .returned (.bool true) ∧ Below w.heap.size w w' := by
  by_cases hl : 1000 < s.size
  · go_enter Tryd.func8, Tryd.ntmps8
    go_wp2_with (go_at_call 11; ((with_reducible refine (awake_any m _ hm).mono ?_); rintro e w1 ⟨rfl, hb⟩; (first | (replace hL := bstep hL hb) | (have hL := hb)); clear hb; replace hc := bcell hL))
    go_ret
    exact ⟨rfl, (by have hB := bstep (w := w) (by go_grown) hL; have hs := hB.size; go_grown)⟩
  · have hs : s.size < 4294967281 := by omega
    obtain ⟨a, b, hz⟩ : ∃ a b, numZ s lo hi = (a, b) := ⟨_, _, rfl⟩
    obtain ⟨t, ht⟩ : ∃ t, nameL s.data.toList = t := ⟨_, rfl⟩
    have HZ := Lib.hid hz
    have HT := Lib.hid ht
    clear hz ht
    go_enter Tryd.func8, Tryd.ntmps8
    go_wp2_with (first | (go_at_call 11; ((with_reducible refine (awake_any m _ hm).mono ?_); rintro e w1 ⟨rfl, hb⟩; (first | (replace hL := bstep hL hb) | (have hL := hb)); clear hb; replace hc := bcell hL)) | (go_at_call 31; ((with_reducible refine (number_any s lo hi a b _ hs HZ.out).mono ?_); rintro e w1 ⟨rfl, rfl⟩)) | (go_at_call 32; ((with_reducible refine (rnumber_any s lo hi a b _ hs HZ.out).mono ?_); rintro e w1 ⟨rfl, rfl⟩)) | (go_at_call 33; ((with_reducible refine (name_is s t _ HT.out).mono ?_); rintro e w1 ⟨rfl, rfl⟩)) | (go_at_call 34; ((with_reducible refine (rname_is s t _ HT.out).mono ?_); rintro e w1 ⟨rfl, rfl⟩)))
    go_ret
    exact ⟨rfl, (by have hB := bstep (w := w) (by go_grown) hL; have hs := hB.size; go_grown)⟩

theorem month_is (x : ByteArray) (a b : Int) (w : World) (h : findZ MON x = (a, b)) : Calls Tryd.prog 23 #[.string x] w fun e w' => e = .returned (.tuple #[.int .i64 a, .int .i64 b]) ∧ Below w.heap.size w w' := by
  have := month_any x w
  rw [h] at this
  exact this
theorem weekday_is (x : ByteArray) (a b : Int) (w : World) (h : findZ WKD x = (a, b)) : Calls Tryd.prog 26 #[.string x] w fun e w' => e = .returned (.tuple #[.int .i64 a, .int .i64 b]) ∧ Below w.heap.size w w' := by
  have := weekday_any x w
  rw [h] at this
  exact this
theorem monthName_is (n : Int) (t : ByteArray) (w : World) (h : getZ MON n = t) : Calls Tryd.prog 28 #[.int .i64 n] w fun e w' => e = .returned (.string t) ∧ Below w.heap.size w w' := by
  rw [← h]; exact monthName_any n w
theorem weekdayName_is (n : Int) (t : ByteArray) (w : World) (h : getZ WKD n = t) : Calls Tryd.prog 30 #[.int .i64 n] w fun e w' => e = .returned (.string t) ∧ Below w.heap.size w w' := by
  rw [← h]; exact weekdayName_any n w
theorem rfind_is (l : List ByteArray) (b c : Nat) (x : ByteArray) (w : World) (hl : l.length ≤ 1000) (hc : At w b l) (n : Nat) (hn : n = l.length) (p q : Int) (h : findZ l x = (p, q)) :
    Calls Tryd.prog 24 #[.slice (some ⟨b, 0, none⟩) n c, .string x] w fun e w' => e = .returned (.tuple #[.int .i64 p, .int .i64 q]) ∧ w = w' := by
  have := rfind_any l b c x w hl hc n hn
  rw [h] at this
  exact this
theorem rget_is (l : List ByteArray) (b c : Nat) (n : Int) (t : ByteArray) (w : World) (hl : l.length ≤ 1000) (hc : At w b l) (k : Nat) (hk : k = l.length) (h : getZ l n = t) :
    Calls Tryd.prog 29 #[.slice (some ⟨b, 0, none⟩) k c, .int .i64 n] w fun e w' => e = .returned (.string t) ∧ w = w' := by
  rw [← h]; exact rget_any l b c n w hl hc k hk

set_option maxRecDepth 20000 in
theorem lexNames_walk (s : ByteArray) (n : Int) (m : Int) (w : World) (hm : w.cell? ⟨0, 0, none⟩ = some (.int .i64 m)) :
    Calls Tryd.prog 6 #[.string s, .int .i64 n] w fun e w' => e = .returned (.bool true) ∧ Below w.heap.size w w' := by
  by_cases hl : 1000 < s.size
  · go_enter Tryd.func6, Tryd.ntmps6
    go_wp2_with (go_at_call 11; ((with_reducible refine (awake_any m _ hm).mono ?_); rintro e w1 ⟨rfl, hb⟩; (first | (replace hL := bstep hL hb) | (have hL := hb)); clear hb; replace hc := bcell hL))
    go_ret
    exact ⟨rfl, (by have hB := bstep (w := w) (by go_grown) hL; have hs := hB.size; go_grown)⟩
  · have hs : s.size < 4294967281 := by omega
    obtain ⟨a, b, hz⟩ : ∃ a b, findZ MON s = (a, b) := ⟨_, _, rfl⟩
    obtain ⟨c, d, hy⟩ : ∃ c d, findZ WKD s = (c, d) := ⟨_, _, rfl⟩
    obtain ⟨t, ht⟩ : ∃ t, getZ MON n = t := ⟨_, rfl⟩
    obtain ⟨u, hu⟩ : ∃ u, getZ WKD n = u := ⟨_, rfl⟩
    have HZ := Lib.hid hz
    have HY := Lib.hid hy
    have HT := Lib.hid ht
    have HU := Lib.hid hu
    have b2 : ∀ w : World, (binOp .eql 9 (.string t) (.string t)).run Tryd.prog w = .ok (.bool true) w := fun w => str_eq t w
    have b3 : ∀ w : World, (binOp .eql 9 (.string u) (.string u)).run Tryd.prog w = .ok (.bool true) w := fun w => str_eq u w
    clear hz hy ht hu
    go_enter Tryd.func6, Tryd.ntmps6
    go_wp2_with (first | (go_at_call 11; ((with_reducible refine (awake_any m _ hm).mono ?_); rintro e w1 ⟨rfl, hb⟩; (first | (replace hL := bstep hL hb) | (have hL := hb)); clear hb; replace hc := bcell hL)) | (go_at_call 23; ((with_reducible refine (month_is s a b _ HZ.out).mono ?_); rintro e w1 ⟨rfl, hb⟩; (first | (replace hL := bstep hL hb) | (have hL := hb)); clear hb; replace hc := bcell hL)) | (go_at_call 26; ((with_reducible refine (weekday_is s c d _ HY.out).mono ?_); rintro e w1 ⟨rfl, hb⟩; (first | (replace hL := bstep hL hb) | (have hL := hb)); clear hb; replace hc := bcell hL)) | (go_at_call 28; ((with_reducible refine (monthName_is n t _ HT.out).mono ?_); rintro e w1 ⟨rfl, hb⟩; (first | (replace hL := bstep hL hb) | (have hL := hb)); clear hb; replace hc := bcell hL)) | (go_at_call 30; ((with_reducible refine (weekdayName_is n u _ HU.out).mono ?_); rintro e w1 ⟨rfl, hb⟩; (first | (replace hL := bstep hL hb) | (have hL := hb)); clear hb; replace hc := bcell hL)) | (go_at_call 25; with_reducible refine (rmon_any _).mono ?_; rintro e w1 ⟨rfl, hA, hb⟩; replace hL := bstep hL hb; clear hb) | (go_at_call 27; with_reducible refine (rwkd_any _).mono ?_; rintro e w1 ⟨rfl, hA, hb⟩; replace hL := bstep hL hb; clear hb) | (go_at_call 24; (first | (with_reducible refine (rfind_is MON _ _ s _ (by decide) hA 12 rfl a b HZ.out).mono ?_) | (with_reducible refine (rfind_is WKD _ _ s _ (by decide) hA 7 rfl c d HY.out).mono ?_)); rintro e w1 ⟨rfl, rfl⟩) | (go_at_call 29; (first | (with_reducible refine (rget_is MON _ _ n t _ (by decide) hA 12 rfl HT.out).mono ?_) | (with_reducible refine (rget_is WKD _ _ n u _ (by decide) hA 7 rfl HU.out).mono ?_)); rintro e w1 ⟨rfl, rfl⟩))
    go_ret
    exact ⟨rfl, (by have hB := bstep (w := w) (by go_grown) hL; have hs := hB.size; go_grown)⟩
end Go.Proofs.YtcpfbemmlmdcaaaDoor.Lx
