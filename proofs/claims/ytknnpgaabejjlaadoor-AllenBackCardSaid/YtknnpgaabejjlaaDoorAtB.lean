/-
  The walk of AllenBack.
-/
import Derived.Test.YtknnpgaabejjlaaDoorAtL
set_option linter.unusedSimpArgs false
set_option linter.unusedVariables false
namespace Go.Proofs.YtknnpgaabejjlaaDoor.Al
open Go Go.RowKit Go.Proofs.YtknnpgaabejjlaaDoor.Bt Go.Proofs.YtknnpgaabejjlaaDoor.Sl Go.Proofs.YtknnpgaabejjlaaDoor.Tp Go.Proofs.YtknnpgaabejjlaaDoor.Lx
open Go.Proofs.YtknnpgaabejjlaaDoor.Iv (nms name_in)

def sumF (L : List (Fin 13)) : Nat := (L.map fun r => 2 ^ r.val).sum
theorem sumF_snoc (L : List (Fin 13)) (x : Fin 13) : sumF (L ++ [x]) = sumF L + 2 ^ x.val := by simp [sumF]
theorem sumF_app (L M : List (Fin 13)) : sumF (L ++ M) = sumF L + sumF M := by simp [sumF]
theorem or_all : ((List.range 8192).all fun m => (List.range 13).all fun r => m.testBit r || (m ||| 2 ^ r) == m + 2 ^ r) = true := by kernel_rfl
theorem or_add (m r : Nat) (hm : m < 8192) (hr : r < 13) (h : m.testBit r = false) : m ||| 2 ^ r = m + 2 ^ r := by
  have := List.all_eq_true.1 (List.all_eq_true.1 or_all m (List.mem_range.2 hm)) r (List.mem_range.2 hr)
  simpa [h] using this
theorem orF_go : ∀ (L : List (Fin 13)) (m : Nat), m < 8192 → L.Nodup → (∀ r ∈ L, m.testBit r.val = false) → (L.map Fin.val).foldl (fun m r => m ||| 2 ^ r) m = m + sumF L
  | [], m, _, _, _ => rfl
  | r :: L, m, hm, hn, hb => by
    rw [List.nodup_cons] at hn
    have h1 := hb r (by simp)
    have e := or_add m r.val hm r.isLt h1
    rw [List.map_cons, List.foldl_cons, orF_go L (m ||| 2 ^ r.val) (Nat.or_lt_two_pow (n := 13) hm (pow_lt _ (by omega))) hn.2 (fun x hx => testBit_or_pow m r.val x.val (hb x (by simp [hx])) (fun e => hn.1 (by rw [Fin.ext e]; exact hx))), e]
    show m + 2 ^ r.val + sumF L = m + sumF (r :: L)
    simp [sumF]; omega
theorem orF_sum (L : List (Fin 13)) (h : L.Nodup) : orF L = sumF L := by
  have := orF_go L 0 (by omega) h (by simp)
  unfold orF
  rw [this]; omega
theorem sumF_take (L : List (Fin 13)) (k : Nat) : sumF (L.take k) ≤ sumF L := by
  have h : sumF L = sumF (L.take k) + sumF (L.drop k) := by rw [← sumF_app, List.take_append_drop]
  omega
theorem wrap64_small (z : Int) (h0 : 0 ≤ z) (h1 : z < 9223372036854775808) : wrap64 z = z := by
  unfold wrap64; omega
/-- The list turned by q. -/
def rotF (L : List (Fin 13)) (q : Nat) : List (Fin 13) := L.drop q ++ L.take q
theorem rot_sum (L : List (Fin 13)) (q : Nat) : sumF (rotF L q) = sumF L := by
  have h : sumF L = sumF (L.take q) + sumF (L.drop q) := by rw [← sumF_app, List.take_append_drop]
  unfold rotF
  rw [sumF_app, h]; omega
theorem rot_perm (L : List (Fin 13)) (q : Nat) : (rotF L q).Perm L := by
  have := @List.perm_append_comm _ (L.drop q) (L.take q)
  rwa [List.take_append_drop] at this
theorem rot_len (L : List (Fin 13)) (q : Nat) : (rotF L q).length = L.length := (rot_perm L q).length_eq
theorem rot_nodup (L : List (Fin 13)) (q : Nat) (h : L.Nodup) : (rotF L q).Nodup := (rot_perm L q).nodup_iff.2 h
theorem rot_get (L : List (Fin 13)) (t i : Nat) (hi : i < L.length) : (rotF L (t % L.length))[i]? = L[(i + t) % L.length]? := by
  have hq : t % L.length < L.length := Nat.mod_lt _ (by omega)
  have hm : (i + t) % L.length = (i + t % L.length) % L.length := by rw [Nat.add_mod_mod]
  rw [hm]
  generalize t % L.length = q at hq
  unfold rotF
  by_cases h : i + q < L.length
  · rw [Nat.mod_eq_of_lt h, List.getElem?_append_left (by rw [List.length_drop]; omega), List.getElem?_drop]
    congr 1; omega
  · have : (i + q) % L.length = i + q - L.length := by
      rw [Nat.mod_eq_sub_mod (by omega), Nat.mod_eq_of_lt (by omega)]
    rw [this, List.getElem?_append_right (by rw [List.length_drop]; omega), List.length_drop, List.getElem?_take_of_lt (by omega)]
    congr 1; omega
theorem txt_bad (n : Int) (h : isSetB n = false) : txtS n = ⟨#[]⟩ := by unfold txtS; rw [if_pos h]
theorem back_bad (n t : Int) (m : Int) (w : World) (hm : w.cell? ⟨0, 0, none⟩ = some (.int .i64 m)) (h : isSetB n = false) :
    Calls Tryd.prog 4 #[.int .i64 n, .int .u8 t] w fun e w' => e = .returned (.bool true) ∧ Below w.heap.size w w' := by
  have t1 := text_any n
  rw [txt_bad n h] at t1
  have i1 := is_any n
  rw [h] at i1
  go_enter Tryd.func4, Tryd.ntmps4
  go_wp2_with (first | (go_at_call 5; (with_reducible refine (awake_any _).mono ?_); rintro e w1 ⟨rfl, hL⟩) | (go_at_call 8; (with_reducible refine (t1 _).mono ?_); rintro e w1 ⟨rfl, hb⟩; replace hL := bstep hL hb; clear hb) | (go_at_call 10; ((with_reducible refine (i1 _).mono ?_); rintro e w1 ⟨rfl, rfl⟩)) | (go_at_call 11; (with_reducible refine (singles_none n _ h).mono ?_); rintro e w1 ⟨rfl, hb⟩; replace hL := bstep hL hb; clear hb))
  go_ret
  exact ⟨rfl, hL⟩
theorem back_zero (t : Int) (m : Int) (w : World) (hm : w.cell? ⟨0, 0, none⟩ = some (.int .i64 m)) :
    Calls Tryd.prog 4 #[.int .i64 0, .int .u8 t] w fun e w' => e = .returned (.bool true) ∧ Below w.heap.size w w' := by
  have t1 : ∀ w : World, Calls Tryd.prog 8 #[.int .i64 0] w fun e w' => e = .returned (.string noneT) ∧ Below w.heap.size w w' := text_zero
  have i1 : ∀ w : World, Calls Tryd.prog 10 #[.int .i64 0] w fun e w' => e = .returned (.bool true) ∧ w = w' := is_any 0
  have p1 : ∀ w : World, w.cell? ⟨0, 0, none⟩ = some (.int .i64 m) → Calls Tryd.prog 6 #[.string noneT] w fun e w' => e = .returned (.tuple #[.int .i64 0, .int .i64 0]) ∧ Below w.heap.size w w' := aparse_any noneT m
  have hs : ∀ w : World, Calls Tryd.prog 11 #[.int .i64 0] w fun e w' => ∃ ad cap, e = .returned (.slice ad 0 cap) ∧ Below w.heap.size w w' := fun w => (singles_any 0 (by omega) w).mono fun e w' ⟨v, he, hSl, hb⟩ => by
    obtain ⟨ad, cap, rfl⟩ := hSl.form
    exact ⟨ad, cap, he, hb⟩
  unfold noneT at *
  go_enter Tryd.func4, Tryd.ntmps4
  go_wp2_with (first | (go_at_call 5; (with_reducible refine (awake_any _).mono ?_); rintro e w1 ⟨rfl, hL⟩) | (go_at_call 8; (with_reducible refine (t1 _).mono ?_); rintro e w1 ⟨rfl, hb⟩; replace hL := bstep hL hb; clear hb) | (go_at_call 10; ((with_reducible refine (i1 _).mono ?_); rintro e w1 ⟨rfl, rfl⟩)) | (go_at_call 6; (with_reducible refine (p1 _ (Sl.cell_kept hm hL)).mono ?_); rintro e w1 ⟨rfl, hb⟩; replace hL := bstep hL hb; clear hb) | (go_at_call 11; (with_reducible refine (hs _).mono ?_); rintro e w1 ⟨ad, cap, rfl, hb⟩; replace hL := bstep hL hb; clear hb))
  go_ret
  exact ⟨rfl, hL⟩
theorem back_set (n : Nat) (t : Nat) (ht : t < 256) (m : Int) (w : World) (hm : w.cell? ⟨0, 0, none⟩ = some (.int .i64 m)) (hn : n < 8192) :
    Calls Tryd.prog 4 #[.int .i64 (n : Int), .int .u8 (t : Int)] w fun e w' => e = .returned (.bool true) ∧ Below w.heap.size w w' := by
  have his : isSetB (n : Int) = true := by simp [isSetB]; omega
  have t1 := text_any (n : Int)
  have i1 := is_any (n : Int)
  rw [his] at i1
  have p1 := aparse_any (txtS (n : Int)) m
  rw [parA_txt n hn] at p1
  by_cases h0 : singF n = []
  · have := singF_nil n hn h0
    subst this
    exact back_zero t m w hm
  · obtain ⟨N, hN⟩ : ∃ N, N = (singF n).length := ⟨_, rfl⟩
    have hN0 : N ≠ 0 := fun e => h0 (List.length_eq_zero_iff.1 (by omega))
    have hN13 : N ≤ 13 := by rw [hN]; exact singF_len n
    have hs : ∀ w : World, Calls Tryd.prog 11 #[.int .i64 (n : Int)] w fun e w' => ∃ g off cap, e = .returned (.slice (some ⟨g, off, none⟩) N cap) ∧ (∀ (j : Nat) (x : Fin 13), (singF n)[j]? = some x → w'.cell? ⟨g, off + j, none⟩ = some (.int .i64 (x.val : Int))) ∧ Below w.heap.size w w' := fun w => (singles_any n hn w).mono fun e w' ⟨v, he, hSl, hb⟩ => by
      obtain ⟨g, off, cap, rfl, hc⟩ := hSl.open (by omega)
      rw [← hN] at he
      exact ⟨g, off, cap, he, fun j x hx => hc j _ (by rw [List.getElem?_map, hx]; rfl), hb⟩
    have HN := Lib.hid hN
    clear hN
    have hNb : ((N : Int) == 0) = false := by simpa using hN0
    generalize txtS (n : Int) = tx at *
    go_enter Tryd.func4, Tryd.ntmps4
    go_wp2_with (first | (go_at_call 5; (with_reducible refine (awake_any _).mono ?_); rintro e w1 ⟨rfl, hL⟩) | (go_at_call 8; (with_reducible refine (t1 _).mono ?_); rintro e w1 ⟨rfl, hb⟩; replace hL := bstep hL hb; clear hb) | (go_at_call 10; ((with_reducible refine (i1 _).mono ?_); rintro e w1 ⟨rfl, rfl⟩)) | (go_at_call 6; (with_reducible refine (p1 _ (Sl.cell_kept hm hL)).mono ?_); rintro e w1 ⟨rfl, hb⟩; replace hL := bstep hL hb; clear hb) | (go_at_call 11; (with_reducible refine (hs _).mono ?_); rintro e w1 ⟨g, off, cap, rfl, hc, hb⟩; replace hL := bstep hL hb; clear hb; replace hc := Lib.hid hc))
    obtain ⟨q, hq⟩ : ∃ q, q = t % N := ⟨_, rfl⟩
    have hrg : ∀ i, i < N → (rotF (singF n) q)[i]? = (singF n)[(i + t) % N]? := fun i hi => by rw [hq, HN.out]; exact rot_get _ t i (by rw [← HN.out]; exact hi)
    have hrl : (rotF (singF n) q).length = N := by rw [rot_len]; exact HN.out.symm
    have hrs : sumF (rotF (singF n) q) = n := by rw [rot_sum, ← orF_sum _ (singF_nodup n), orF_sing n hn]
    have hrp : parA (joinT (rotF (singF n) q)) = ((n : Int), 0) := by
      rw [parA_join _ (fun e => by rw [e] at hrl; exact hN0 hrl.symm) (rot_nodup _ _ (singF_nodup n)) (by rw [hrl]; exact hN13), orF_sum _ (rot_nodup _ _ (singF_nodup n)), hrs]
    generalize rotF (singF n) q = R at *
    have HRG := Lib.hid hrg
    have HRL := Lib.hid hrl
    have HRS := Lib.hid hrs
    have HRP := Lib.hid hrp
    clear hrg hrl hrs hrp hq q
    go_loopw [9, 10, 51] (fun su o i wr => ∃ k : Nat, k ≤ N ∧ i = .int .i64 k ∧ su = .int .i64 ((sumF (R.take k) : Nat) : Int) ∧ o = .string (joinT (R.take k)) ∧ Below w.heap.size w wr ∧ Below w1.heap.size w1 wr) (fun _ _ i _ => N - (intOf i).toNat)
    case atStart => exact ⟨0, Nat.zero_le _, rfl, rfl, rfl, hL, Below.refl _ _⟩
    case round =>
      obtain ⟨k, hk, rfl, rfl, rfl, hL2, hL3⟩ := hrel
      by_cases hlt : k < N
      · obtain ⟨x, hx⟩ : ∃ x, R[k]? = some x := ⟨_, List.getElem?_eq_getElem (by rw [HRL.out]; exact hlt)⟩
        have hmod : (k + t) % N < N := Nat.mod_lt _ (by omega)
        have c0 := Sl.cell_kept (hc.out ((k + t) % N) x (by rw [← HRG.out k hlt]; exact hx)) hL3
        have hnx := name_in x.val x.isLt
        have hx0 : (0 : Int) ≤ (x.val : Int) := by omega
        have hx1 : (x.val : Int) ≤ 12 := by have := x.isLt; omega
        have hp := wrap_pw x.val (by omega)
        have hz : (0 : Int) ≤ ((k : Int) + (t : Int)) % (N : Int) ∧ ((k : Int) + (t : Int)) % (N : Int) < (N : Int) := ⟨Int.emod_nonneg _ (by omega), Int.emod_lt_of_pos _ (by omega)⟩
        have hsz : (joinT (R.take k)).size ≤ 169 := by
          rw [joinT_size]
          have := joinN_len (R.take k)
          rw [List.length_take] at this
          omega
        have hnz := nmF_size x
        have hs2 : (joinT (R.take k) ++ ⟨#[124]⟩).size ≤ 170 := by rw [ByteArray.size_append]; show _ + 1 ≤ 170; omega
        have hsn : sumF (R.take (k + 1)) = sumF (R.take k) + pw x.val := by
          rw [List.take_add_one, hx]; exact sumF_snoc _ _
        have hsb := sumF_take R (k + 1)
        rw [HRS.out] at hsb
        have hadd : wrap64 (((sumF (R.take k) : Nat) : Int) + ((pw x.val : Nat) : Int)) = ((sumF (R.take (k + 1)) : Nat) : Int) := by
          rw [wrap64_small _ (by omega) (by omega), hsn]; omega
        have HJ := Lib.hid (joinT_snoc R k x hx)
        clear hsn hx
        have hnx2 : ∀ w : World, Calls Tryd.prog 12 #[.int .i64 (x.val : Int)] w fun e w' => e = .returned (.string (nmF x)) ∧ Below w.heap.size w w' := hnx
        clear hnx
        by_cases hk0 : 0 < k
        · have HJ2 := Lib.hid (show joinT (R.take (k + 1)) = (joinT (R.take k) ++ ⟨#[124]⟩) ++ nmF x by rw [HJ.out, if_pos hk0])
          go_wp2_with (go_at_call 12; (with_reducible refine (hnx2 _).mono ?_); rintro e w2 ⟨rfl, hb⟩)
          go_roundw
          case rel => first | exact ⟨k + 1, by omega, by go_num, rfl, by rw [HJ2.out], bstep hL2 hb, bstep hL3 hb⟩ | ((repeat apply Exists.intro); exact ⟨⟨k + 1, by omega, by go_num, rfl, by rw [HJ2.out], bstep hL2 hb, bstep hL3 hb⟩, rfl⟩)
          case measure => simp [intOf]; omega
        · have HJ2 := Lib.hid (show joinT (R.take (k + 1)) = joinT (R.take k) ++ nmF x by rw [HJ.out, if_neg hk0])
          go_wp2_with (go_at_call 12; (with_reducible refine (hnx2 _).mono ?_); rintro e w2 ⟨rfl, hb⟩)
          go_roundw
          case rel => first | exact ⟨k + 1, by omega, by go_num, rfl, by rw [HJ2.out], bstep hL2 hb, bstep hL3 hb⟩ | ((repeat apply Exists.intro); exact ⟨⟨k + 1, by omega, by go_num, rfl, by rw [HJ2.out], bstep hL2 hb, bstep hL3 hb⟩, rfl⟩)
          case measure => simp [intOf]; omega
      · obtain rfl : k = N := by omega
        have hta : R.take k = R := List.take_of_length_le (by rw [HRL.out]; exact Nat.le_refl _)
        have hp2 := aparse_any (joinT R) m
        rw [HRP.out] at hp2
        rw [hta, HRS.out]
        go_wp2_with (go_at_call 6; (with_reducible refine (hp2 _ (Sl.cell_kept hm hL2)).mono ?_); rintro e w1 ⟨rfl, hb⟩; replace hL2 := bstep hL2 hb; clear hb)
        go_ret
        exact ⟨rfl, hL2⟩
theorem allenBack_walk (n t : Int) (m : Int) (w : World) (hm : w.cell? ⟨0, 0, none⟩ = some (.int .i64 m)) (wt : (Lit.int .u8 t).wf = true) :
    Calls Tryd.prog 4 #[.int .i64 n, .int .u8 t] w fun e w' => e = .returned (.bool true) ∧ Below w.heap.size w w' := by
  cases h : isSetB n
  · exact back_bad n t m w hm h
  · have h8 := bounds_u8 wt
    obtain ⟨a, rfl⟩ : ∃ a : Nat, n = a := ⟨n.toNat, by simp [isSetB] at h; omega⟩
    obtain ⟨b, rfl⟩ : ∃ b : Nat, t = b := ⟨t.toNat, by omega⟩
    exact back_set a b (by omega) m w hm (by simp [isSetB] at h; omega)
end Go.Proofs.YtknnpgaabejjlaaDoor.Al
