/-
  The walk of allen's Parse (layer 11's texts).
-/
import Derived.Test.YtknnpgaabejjlaaDoorAt
set_option linter.unusedSimpArgs false
set_option linter.unusedVariables false
namespace Go.Proofs.YtknnpgaabejjlaaDoor.Al
open Go Go.RowKit Go.Proofs.YtknnpgaabejjlaaDoor.Bt Go.Proofs.YtknnpgaabejjlaaDoor.Sl Go.Proofs.YtknnpgaabejjlaaDoor.Tp Go.Proofs.YtknnpgaabejjlaaDoor.Lx
open Go.Proofs.YtknnpgaabejjlaaDoor.Iv (parseZ parse_any)

theorem cells_str (w : World) (PB : List ByteArray) (t : TypeId) : ∀ j p, PB[j]? = some p → (w.alloc (.cells (PB.map Value.string).toArray t)).cell? ⟨w.heap.size, j, none⟩ = some (.string p) := by
  intro j p h
  have := cells_new w (PB.map Value.string) t j (.string p) (by rw [List.getElem?_map, h]; rfl)
  have hadd : (⟨w.heap.size, 0, none⟩ : Addr).add j = ⟨w.heap.size, j, none⟩ := by unfold Addr.add; split <;> simp_all
  rw [hadd] at this
  exact this
theorem splitb_any (s : ByteArray) (m : Int) (w : World) (hs : s.size ≤ 200) (hm : w.cell? ⟨0, 0, none⟩ = some (.int .i64 m)) :
    Calls Tryd.prog 16 #[.string s, .string ⟨#[124]⟩] w fun e w' => ∃ PB : List ByteArray, PB.map (·.data.toList) = splitL 124 s.data.toList ∧ PB.length ≤ 201 ∧ Below w.heap.size w w' ∧
      e = .returned (.slice (some ⟨w.heap.size, 0, none⟩) PB.length PB.length) ∧ (∀ j p, PB[j]? = some p → w'.cell? ⟨w.heap.size, j, none⟩ = some (.string p)) ∧ w.heap.size < w'.heap.size := by
  refine (Tryd.strings_Split s ⟨#[124]⟩ m w (by omega) hm (by show 1 ≤ 1; omega)).mono ?_
  rintro e w' ⟨rfl, rfl⟩
  have hl := Lib.splitB_all ⟨#[124]⟩ (by show 1 ≤ 1; omega) 0 _ s rfl
  have hle := Lib.countB_le ⟨#[124]⟩ (by show 1 ≤ 1; omega) s.size s (Nat.le_refl _)
  refine ⟨_, splitB_one 124 s, by rw [hl]; omega, (Below.refl _ _).alloc (Nat.le_refl _) _, by rw [hl], cells_str _ _ _, by simp⟩

theorem parse_long (s : ByteArray) (w : World) (h : 200 < s.size) : Calls Tryd.prog 6 #[.string s] w fun e w' => e = .returned (.tuple #[.int .i64 0, .int .i64 5]) ∧ Below w.heap.size w w' := by
  go_enter Tryd.func6, Tryd.ntmps6
  go_wp2
  go_ret2
  exact ⟨rfl, by go_grown⟩
theorem parse_noneT (w : World) : Calls Tryd.prog 6 #[.string noneT] w fun e w' => e = .returned (.tuple #[.int .i64 0, .int .i64 0]) ∧ Below w.heap.size w w' := by
  unfold noneT
  go_enter Tryd.func6, Tryd.ntmps6
  go_wp2
  go_ret2
  exact ⟨rfl, by go_grown⟩
theorem parse_anyT (w : World) : Calls Tryd.prog 6 #[.string anyT] w fun e w' => e = .returned (.tuple #[.int .i64 8191, .int .i64 0]) ∧ Below w.heap.size w w' := by
  unfold anyT
  go_enter Tryd.func6, Tryd.ntmps6
  go_wp2
  go_ret2
  exact ⟨rfl, by go_grown⟩
theorem str_nb (z x : ByteArray) (he : ¬ z = x) : (z.toList == x.toList) = false := by
  have h : ¬ z.toList = x.toList := by
    intro h
    rw [ByteArray.toList_eq, ByteArray.toList_eq] at h
    exact he (ByteArray.ext (Array.toList_inj.1 h))
  simpa using h
set_option maxHeartbeats 1000000 in
theorem parse_split (s : ByteArray) (m0 : Int) (w : World) (h : ¬ 200 < s.size) (hn : ¬ s = noneT) (ha : ¬ s = anyT) (hm : w.cell? ⟨0, 0, none⟩ = some (.int .i64 m0)) :
    Calls Tryd.prog 6 #[.string s] w fun e w' => e = .returned (.tuple #[.int .i64 (finA (parsA nmL (splitL 124 s.data.toList) 0 false)).1, .int .i64 (finA (parsA nmL (splitL 124 s.data.toList) 0 false)).2]) ∧ Below w.heap.size w w' := by
  have b1 := str_nb s noneT hn
  have b2 := str_nb s anyT ha
  rw [show noneT.toList = [110, 111, 110, 101] by rw [ByteArray.toList_eq]; rfl] at b1
  rw [show anyT.toList = [97, 110, 121] by rw [ByteArray.toList_eq]; rfl] at b2
  go_enter Tryd.func6, Tryd.ntmps6
  go_wp2_with (go_at_call 16; ((with_reducible refine (splitb_any s m0 _ (by omega) hm).mono ?_); rintro e w1 ⟨PB, hPB, hlen, hL, rfl, hcell, hB⟩; replace hcell := Lib.hid hcell; have HP := Lib.hid hPB; clear hPB))
  go_loopw [4, 5, 23] (fun st tv i wr => ∃ k m : Nat, ∃ tw : Bool, k ≤ PB.length ∧ i = .int .i64 k ∧ st = .int .i64 (m : Int) ∧ tv = .bool tw ∧ m < 8192 ∧ parsA nmL ((PB.map (·.data.toList)).drop k) m tw = parsA nmL (splitL 124 s.data.toList) 0 false ∧ Below w.heap.size w wr ∧ Below w1.heap.size w1 wr) (fun _ _ i _ => PB.length - (intOf i).toNat)
  case atStart => exact ⟨0, 0, false, Nat.zero_le _, rfl, rfl, rfl, by omega, by rw [List.drop_zero, HP.out], hL, Below.refl _ _⟩
  case round =>
    obtain ⟨k, m, tw, hk, rfl, rfl, rfl, hm8, hpa, hL2, hL3⟩ := hrel
    have HPA := Lib.hid hpa
    clear hpa
    by_cases hlt : k < PB.length
    · obtain ⟨p, hp⟩ : ∃ p, PB[k]? = some p := ⟨_, List.getElem?_eq_getElem hlt⟩
      have c0 : wr.cell? ⟨w.heap.size, k, none⟩ = some (.string p) := by rw [hL3.cell (p := ⟨w.heap.size, k, none⟩) hB]; exact hcell.out k p hp
      have hd : (PB.map (·.data.toList)).drop k = p.data.toList :: (PB.map (·.data.toList)).drop (k + 1) := by
        rw [List.drop_eq_getElem_cons (by rw [List.length_map]; exact hlt)]
        congr 1
        have := List.getElem?_eq_some_iff.1 hp
        obtain ⟨_, e⟩ := this
        rw [List.getElem_map, e]
      have HD := Lib.hid hd
      clear hd hp
      cases hi : idxN 0 nmL p.data.toList with
      | none =>
        have hpp := parse_any p
        rw [parse_none p hi] at hpp
        have hfin : parsA nmL (splitL 124 s.data.toList) 0 false = none := by rw [← HPA.out, HD.out, parsA, hi]
        have HF := Lib.hid hfin
        clear hfin hi
        go_wp2_with (go_at_call 17; ((with_reducible refine (hpp _).mono ?_); rintro e w2 ⟨rfl, hb⟩))
        go_ret2
        rw [HF.out]
        exact ⟨rfl, bstep hL2 hb⟩
      | some r =>
        have hpp := parse_any p
        rw [parse_some p r hi] at hpp
        have hr := idx_lt _ _ hi
        have hnx : parsA nmL ((PB.map (·.data.toList)).drop (k + 1)) (m ||| 2 ^ r) (tw || m.testBit r) = parsA nmL (splitL 124 s.data.toList) 0 false := by rw [← HPA.out, HD.out, parsA, hi]
        have HN := Lib.hid hnx
        have hbt := bit_test m r (by omega)
        have hp := wrap_pw r (by omega)
        have hpl := pow_lt r (by omega)
        have ho : bits .or .i64 ((m : Nat) : Int) ((pw r : Nat) : Int) = (((m ||| 2 ^ r : Nat)) : Int) := by
          rw [bits_or _ _ (by omega) (by unfold pw; omega)]; rfl
        have hlt2 : m ||| 2 ^ r < 8192 := Nat.or_lt_two_pow (n := 13) hm8 hpl
        obtain ⟨m2, hm2⟩ : ∃ m2, m2 = m ||| 2 ^ r := ⟨_, rfl⟩
        rw [← hm2] at ho hlt2 hnx
        have HN2 := Lib.hid hnx
        have hr0 : (0 : Int) ≤ (r : Int) := by omega
        have hr1 : (r : Int) ≤ 12 := by omega
        clear hm2 hnx hi HN hpl
        cases tw
        · cases htb : m.testBit r
          all_goals
            rw [htb] at hbt HN2
            go_wp2_with (go_at_call 17; ((with_reducible refine (hpp _).mono ?_); rintro e w2 ⟨rfl, hb⟩))
            go_roundw
            case rel => exact ⟨k + 1, m2, _, by omega, by go_num, rfl, rfl, hlt2, HN2.out, bstep hL2 hb, bstep hL3 hb⟩
            case measure => simp [intOf]; omega
        · go_wp2_with (go_at_call 17; ((with_reducible refine (hpp _).mono ?_); rintro e w2 ⟨rfl, hb⟩))
          go_roundw
          case rel => exact ⟨k + 1, m2, true, by omega, by go_num, rfl, rfl, hlt2, by simpa using HN2.out, bstep hL2 hb, bstep hL3 hb⟩
          case measure => simp [intOf]; omega
    · have hk' : k = PB.length := by omega
      have hfin : parsA nmL (splitL 124 s.data.toList) 0 false = some (m, tw) := by rw [← HPA.out, List.drop_of_length_le (by rw [List.length_map]; omega)]; rfl
      have HF := Lib.hid hfin
      clear hfin hk'
      cases tw
      all_goals
        go_wp2
        go_ret2
        rw [HF.out]
        exact ⟨rfl, hL2⟩
theorem aparse_any (s : ByteArray) (m0 : Int) (w : World) (hm : w.cell? ⟨0, 0, none⟩ = some (.int .i64 m0)) :
    Calls Tryd.prog 6 #[.string s] w fun e w' => e = .returned (.tuple #[.int .i64 (parA s).1, .int .i64 (parA s).2]) ∧ Below w.heap.size w w' := by
  unfold parA
  by_cases h : 200 < s.size
  · rw [if_pos h]; exact parse_long s w h
  rw [if_neg h]
  by_cases hn : s = noneT
  · rw [if_pos hn, hn]; exact parse_noneT w
  rw [if_neg hn]
  by_cases ha : s = anyT
  · rw [if_pos ha, ha]; exact parse_anyT w
  rw [if_neg ha]
  exact parse_split s m0 w h hn ha hm
end Go.Proofs.YtknnpgaabejjlaaDoor.Al
