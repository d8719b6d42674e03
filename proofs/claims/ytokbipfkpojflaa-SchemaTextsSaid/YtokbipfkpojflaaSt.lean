/-
  The walks of the reference's names and of its writing of a key (layer 34).
-/
import Derived.Test.YtokbipfkpojflaaScB
import Derived.Test.YtokbipfkpojflaaSw
import Derived.Test.YtokbipfkpojflaaScG
set_option linter.unusedSimpArgs false
set_option linter.unusedVariables false
namespace Go.Proofs.Ytokbipfkpojflaa.Sc
open Go Go.RowKit Go.ChangeShapes Go.WideShapes Go.Proofs.Ytokbipfkpojflaa.Sl Go.Lib
open Go.Proofs.Ytokbipfkpojflaa.Va (Cl flatC flatC_len flatC_snoc Cs cs_get bdrew)

set_option maxRecDepth 20000 in
theorem rtext_1 (w : World) : Calls Try.prog 54 #[.int .i64 1, .int .i64 1] w fun e w' => e = .returned (.string ⟨#[49]⟩) ∧ Below w.heap.size w w' := by
  have hck : (convert 83 9 (.slice (some ⟨w.heap.size, 0, none⟩) 1 1)).run Try.prog (w.alloc (.cells #[.int .u8 49] 5)) = .ok (.string ⟨#[49]⟩) (w.alloc (.cells #[.int .u8 49] 5)) := conv_key 1 (by omega) w.heap.size _ ((Bx.new w 5 #[.int .u8 49]).cell 0 _ rfl)
  have hE : ((⟨#[49]⟩ : ByteArray) ++ (⟨#[]⟩ : ByteArray)) = ⟨#[49]⟩ := rfl
  have hT : (⟨#[49]⟩ : ByteArray).toList = [49] := by rw [ByteArray.toList_eq]
  go_enter Try.func54, Try.ntmps54
  go_wp2
  refine wp_loop_rounds 2 ?_
  rw [rounds_succ]
  go_wp2
  rw [rounds_succ]
  go_wp2
  refine wp_loop_rounds 1 ?_
  rw [rounds_succ]
  go_wp2
  go_ret
  exact ⟨by first | rfl | simp, by go_grown⟩
set_option maxRecDepth 20000 in
theorem rtext_2 (w : World) : Calls Try.prog 54 #[.int .i64 2, .int .i64 1] w fun e w' => e = .returned (.string ⟨#[50]⟩) ∧ Below w.heap.size w w' := by
  have hck : (convert 83 9 (.slice (some ⟨w.heap.size, 0, none⟩) 1 1)).run Try.prog (w.alloc (.cells #[.int .u8 50] 5)) = .ok (.string ⟨#[50]⟩) (w.alloc (.cells #[.int .u8 50] 5)) := conv_key 2 (by omega) w.heap.size _ ((Bx.new w 5 #[.int .u8 50]).cell 0 _ rfl)
  have hE : ((⟨#[50]⟩ : ByteArray) ++ (⟨#[]⟩ : ByteArray)) = ⟨#[50]⟩ := rfl
  have hT : (⟨#[50]⟩ : ByteArray).toList = [50] := by rw [ByteArray.toList_eq]
  go_enter Try.func54, Try.ntmps54
  go_wp2
  refine wp_loop_rounds 2 ?_
  rw [rounds_succ]
  go_wp2
  rw [rounds_succ]
  go_wp2
  refine wp_loop_rounds 1 ?_
  rw [rounds_succ]
  go_wp2
  go_ret
  exact ⟨by first | rfl | simp, by go_grown⟩
set_option maxRecDepth 20000 in
theorem rtext_3 (w : World) : Calls Try.prog 54 #[.int .i64 3, .int .i64 1] w fun e w' => e = .returned (.string ⟨#[51]⟩) ∧ Below w.heap.size w w' := by
  have hck : (convert 83 9 (.slice (some ⟨w.heap.size, 0, none⟩) 1 1)).run Try.prog (w.alloc (.cells #[.int .u8 51] 5)) = .ok (.string ⟨#[51]⟩) (w.alloc (.cells #[.int .u8 51] 5)) := conv_key 3 (by omega) w.heap.size _ ((Bx.new w 5 #[.int .u8 51]).cell 0 _ rfl)
  have hE : ((⟨#[51]⟩ : ByteArray) ++ (⟨#[]⟩ : ByteArray)) = ⟨#[51]⟩ := rfl
  have hT : (⟨#[51]⟩ : ByteArray).toList = [51] := by rw [ByteArray.toList_eq]
  go_enter Try.func54, Try.ntmps54
  go_wp2
  refine wp_loop_rounds 2 ?_
  rw [rounds_succ]
  go_wp2
  rw [rounds_succ]
  go_wp2
  refine wp_loop_rounds 1 ?_
  rw [rounds_succ]
  go_wp2
  go_ret
  exact ⟨by first | rfl | simp, by go_grown⟩
set_option maxRecDepth 20000 in
theorem rtext_4 (w : World) : Calls Try.prog 54 #[.int .i64 4, .int .i64 1] w fun e w' => e = .returned (.string ⟨#[52]⟩) ∧ Below w.heap.size w w' := by
  have hck : (convert 83 9 (.slice (some ⟨w.heap.size, 0, none⟩) 1 1)).run Try.prog (w.alloc (.cells #[.int .u8 52] 5)) = .ok (.string ⟨#[52]⟩) (w.alloc (.cells #[.int .u8 52] 5)) := conv_key 4 (by omega) w.heap.size _ ((Bx.new w 5 #[.int .u8 52]).cell 0 _ rfl)
  have hE : ((⟨#[52]⟩ : ByteArray) ++ (⟨#[]⟩ : ByteArray)) = ⟨#[52]⟩ := rfl
  have hT : (⟨#[52]⟩ : ByteArray).toList = [52] := by rw [ByteArray.toList_eq]
  go_enter Try.func54, Try.ntmps54
  go_wp2
  refine wp_loop_rounds 2 ?_
  rw [rounds_succ]
  go_wp2
  rw [rounds_succ]
  go_wp2
  refine wp_loop_rounds 1 ?_
  rw [rounds_succ]
  go_wp2
  go_ret
  exact ⟨by first | rfl | simp, by go_grown⟩
set_option maxRecDepth 20000 in
theorem rtext_5 (w : World) : Calls Try.prog 54 #[.int .i64 5, .int .i64 1] w fun e w' => e = .returned (.string ⟨#[53]⟩) ∧ Below w.heap.size w w' := by
  have hck : (convert 83 9 (.slice (some ⟨w.heap.size, 0, none⟩) 1 1)).run Try.prog (w.alloc (.cells #[.int .u8 53] 5)) = .ok (.string ⟨#[53]⟩) (w.alloc (.cells #[.int .u8 53] 5)) := conv_key 5 (by omega) w.heap.size _ ((Bx.new w 5 #[.int .u8 53]).cell 0 _ rfl)
  have hE : ((⟨#[53]⟩ : ByteArray) ++ (⟨#[]⟩ : ByteArray)) = ⟨#[53]⟩ := rfl
  have hT : (⟨#[53]⟩ : ByteArray).toList = [53] := by rw [ByteArray.toList_eq]
  go_enter Try.func54, Try.ntmps54
  go_wp2
  refine wp_loop_rounds 2 ?_
  rw [rounds_succ]
  go_wp2
  rw [rounds_succ]
  go_wp2
  refine wp_loop_rounds 1 ?_
  rw [rounds_succ]
  go_wp2
  go_ret
  exact ⟨by first | rfl | simp, by go_grown⟩
set_option maxRecDepth 20000 in
theorem rtext_6 (w : World) : Calls Try.prog 54 #[.int .i64 6, .int .i64 1] w fun e w' => e = .returned (.string ⟨#[54]⟩) ∧ Below w.heap.size w w' := by
  have hck : (convert 83 9 (.slice (some ⟨w.heap.size, 0, none⟩) 1 1)).run Try.prog (w.alloc (.cells #[.int .u8 54] 5)) = .ok (.string ⟨#[54]⟩) (w.alloc (.cells #[.int .u8 54] 5)) := conv_key 6 (by omega) w.heap.size _ ((Bx.new w 5 #[.int .u8 54]).cell 0 _ rfl)
  have hE : ((⟨#[54]⟩ : ByteArray) ++ (⟨#[]⟩ : ByteArray)) = ⟨#[54]⟩ := rfl
  have hT : (⟨#[54]⟩ : ByteArray).toList = [54] := by rw [ByteArray.toList_eq]
  go_enter Try.func54, Try.ntmps54
  go_wp2
  refine wp_loop_rounds 2 ?_
  rw [rounds_succ]
  go_wp2
  rw [rounds_succ]
  go_wp2
  refine wp_loop_rounds 1 ?_
  rw [rounds_succ]
  go_wp2
  go_ret
  exact ⟨by first | rfl | simp, by go_grown⟩
set_option maxRecDepth 20000 in
theorem rtext_7 (w : World) : Calls Try.prog 54 #[.int .i64 7, .int .i64 1] w fun e w' => e = .returned (.string ⟨#[55]⟩) ∧ Below w.heap.size w w' := by
  have hck : (convert 83 9 (.slice (some ⟨w.heap.size, 0, none⟩) 1 1)).run Try.prog (w.alloc (.cells #[.int .u8 55] 5)) = .ok (.string ⟨#[55]⟩) (w.alloc (.cells #[.int .u8 55] 5)) := conv_key 7 (by omega) w.heap.size _ ((Bx.new w 5 #[.int .u8 55]).cell 0 _ rfl)
  have hE : ((⟨#[55]⟩ : ByteArray) ++ (⟨#[]⟩ : ByteArray)) = ⟨#[55]⟩ := rfl
  have hT : (⟨#[55]⟩ : ByteArray).toList = [55] := by rw [ByteArray.toList_eq]
  go_enter Try.func54, Try.ntmps54
  go_wp2
  refine wp_loop_rounds 2 ?_
  rw [rounds_succ]
  go_wp2
  rw [rounds_succ]
  go_wp2
  refine wp_loop_rounds 1 ?_
  rw [rounds_succ]
  go_wp2
  go_ret
  exact ⟨by first | rfl | simp, by go_grown⟩
set_option maxRecDepth 20000 in
theorem rtext_8 (w : World) : Calls Try.prog 54 #[.int .i64 8, .int .i64 1] w fun e w' => e = .returned (.string ⟨#[56]⟩) ∧ Below w.heap.size w w' := by
  have hck : (convert 83 9 (.slice (some ⟨w.heap.size, 0, none⟩) 1 1)).run Try.prog (w.alloc (.cells #[.int .u8 56] 5)) = .ok (.string ⟨#[56]⟩) (w.alloc (.cells #[.int .u8 56] 5)) := conv_key 8 (by omega) w.heap.size _ ((Bx.new w 5 #[.int .u8 56]).cell 0 _ rfl)
  have hE : ((⟨#[56]⟩ : ByteArray) ++ (⟨#[]⟩ : ByteArray)) = ⟨#[56]⟩ := rfl
  have hT : (⟨#[56]⟩ : ByteArray).toList = [56] := by rw [ByteArray.toList_eq]
  go_enter Try.func54, Try.ntmps54
  go_wp2
  refine wp_loop_rounds 2 ?_
  rw [rounds_succ]
  go_wp2
  rw [rounds_succ]
  go_wp2
  refine wp_loop_rounds 1 ?_
  rw [rounds_succ]
  go_wp2
  go_ret
  exact ⟨by first | rfl | simp, by go_grown⟩
theorem rtext_any (q : Nat) (h1 : 1 ≤ q) (h2 : q ≤ 8) (w : World) : Calls Try.prog 54 #[.int .i64 (q : Int), .int .i64 1] w fun e w' => e = .returned (.string ⟨#[(48 + (q : Int)).toNat.toUInt8]⟩) ∧ Below w.heap.size w w' := by
  match q, h1, h2 with
  | 1, _, _ => exact rtext_1 w
  | 2, _, _ => exact rtext_2 w
  | 3, _, _ => exact rtext_3 w
  | 4, _, _ => exact rtext_4 w
  | 5, _, _ => exact rtext_5 w
  | 6, _, _ => exact rtext_6 w
  | 7, _, _ => exact rtext_7 w
  | 8, _, _ => exact rtext_8 w
theorem join_snoc (sep x : List UInt8) : ∀ (l : List (List UInt8)), l ≠ [] → Lib.join (l ++ [x]) sep = Lib.join l sep ++ sep ++ x
  | [], h => absurd rfl h
  | [y], _ => by simp [Lib.join, List.intercalate, List.intersperse]
  | y :: z :: l, _ => by
    have ih := join_snoc sep x (z :: l) (by simp)
    have e1 : ∀ L : List (List UInt8), Lib.join (y :: z :: L) sep = y ++ (sep ++ Lib.join (z :: L) sep) := fun L => by
      simp [Lib.join, List.intercalate, List.intersperse]
    rw [List.cons_append, List.cons_append, e1, e1, ← List.cons_append, ih]
    simp
theorem jnB_one (x : ByteArray) : jnB [x] = x := by
  unfold jnB
  simp [Lib.join, List.intercalate, List.intersperse]
theorem jnB_snoc (l : List ByteArray) (x : ByteArray) (h : l ≠ []) : jnB (l ++ [x]) = jnB l ++ ⟨#[44, 32]⟩ ++ x := by
  unfold jnB
  rw [List.map_append, List.map_cons, List.map_nil, join_snoc _ _ _ (by simpa using h)]
  apply ByteArray.ext
  apply Array.ext'
  simp
def nmT (l : List ByteArray) : ByteArray := (⟨#[40]⟩ : ByteArray) ++ jnB l ++ ⟨#[41]⟩
set_option maxRecDepth 20000 in
set_option maxHeartbeats 1000000 in
theorem rnames_any (l : List ByteArray) (v : Value) (w : World) (hl : l.length ≤ 100) (hsz : ∀ x ∈ l, x.size ≤ 1000) (hs : Ss w v l) : Calls Try.prog 53 #[v] w fun e w' => e = .returned (.string (nmT l)) ∧ w = w' := by
  have HSZ := Lib.hid hsz
  obtain ⟨a, c, rfl, _⟩ := hs.form
  obtain ⟨n, hn⟩ : ∃ n, n = l.length := ⟨_, rfl⟩
  have HN := Lib.hid hn
  have HS := Lib.hid hs
  rw [← hn] at hl ⊢
  clear hs hn hsz
  go_enter Try.func53, Try.ntmps53
  go_wp2
  go_loop [3, 4] (fun s i => ∃ k : Nat, k ≤ n ∧ i = .int .i64 k ∧ ∃ t : ByteArray, s = .string t ∧ t.size ≤ 1 + k * 1002 ∧ Hid (t = (⟨#[40]⟩ : ByteArray) ++ jnB (l.take k))) (fun _ i => n - (intOf i).toNat)
  case atStart => exact ⟨0, Nat.zero_le _, rfl, ⟨#[40]⟩, rfl, by decide, Lib.hid rfl⟩
  case round =>
    obtain ⟨k, hk, rfl, t, rfl, hts, HI⟩ := hrel
    by_cases hlt : k < n
    · obtain ⟨g, off, cp, e1, hc⟩ := HS.out.1.open (by rw [← HN.out]; omega)
      rw [← HN.out] at e1
      cases e1
      obtain ⟨x, hx⟩ : ∃ t, l[k]? = some t := ⟨_, List.getElem?_eq_getElem (by rw [← HN.out]; exact hlt)⟩
      have x0 := ss_get hc hx
      have hxs := HSZ.out x (List.mem_of_getElem? hx)
      have k0 : (0 : Int) ≤ (k : Int) := by omega
      have k1 : (k : Int) < (n : Int) := by omega
      have hst : l.take (k + 1) = l.take k ++ [x] := by rw [List.take_add_one, hx]; rfl
      have HX := Lib.hid hx
      clear hc hx
      by_cases hz : k = 0
      · subst hz
        rw [Nat.add_zero] at x0
        have HE := Lib.hid (show t ++ x = (⟨#[40]⟩ : ByteArray) ++ jnB (l.take (0 + 1)) by
          rw [HI.out, hst, List.take_zero, List.nil_append, jnB_one]; rfl)
        have h1 : ¬ 9223372036854775807 < t.size + x.size := by omega
        clear hst
        go_wp2
        go_round
        case rel => exact ⟨0 + 1, by omega, by go_num, _, rfl, by rw [ByteArray.size_append]; omega, HE⟩
        case measure => simp [intOf]; omega
      · have HE := Lib.hid (show t ++ ⟨#[44, 32]⟩ ++ x = (⟨#[40]⟩ : ByteArray) ++ jnB (l.take (k + 1)) by
          rw [HI.out, hst, jnB_snoc _ _ (by
            intro e
            have h5 := congrArg List.length e
            rw [List.length_take, List.length_nil] at h5
            have h6 := HN.out
            omega)]
          simp only [ByteArray.append_assoc])
        have hkp : (0 : Int) < (k : Int) := by omega
        have h0 : ¬ 9223372036854775807 < t.size + 2 := by omega
        have h1 : ¬ 9223372036854775807 < t.size + 2 + x.size := by omega
        clear hst hz
        go_wp2
        go_round
        case rel => exact ⟨k + 1, by omega, by go_num, _, rfl, by rw [ByteArray.size_append, ByteArray.size_append]; show t.size + 2 + x.size ≤ _; omega, HE⟩
        case measure => simp [intOf]; omega
    · have HE := Lib.hid (show t ++ ⟨#[41]⟩ = nmT l by rw [HI.out, List.take_of_length_le (by rw [← HN.out]; omega)]; rfl)
      have h0 : ¬ 9223372036854775807 < t.size + 1 := by omega
      go_wp2
      go_ret
      exact ⟨by rw [← HE.out]; rfl, rfl⟩
end Go.Proofs.Ytokbipfkpojflaa.Sc
