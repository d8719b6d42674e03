/-
  The walk of one (layer 33): the value at the beginning of bytes.
-/
import Derived.Test.YtgfppajbegcaeaaDoorVaI
set_option linter.unusedSimpArgs false
set_option linter.unusedVariables false
namespace Go.Proofs.YtgfppajbegcaeaaDoor.Va
open Go.RowKit Go.ChangeShapes Go.WideShapes Go.Proofs.YtgfppajbegcaeaaDoor.Sl

/-- What one returns: a value, and 0 where there is none. -/
def OneV (w : World) (b : List UInt8) (e : Ending) (w' : World) : Prop := ∃ (v : V3) (n : Int), e = .returned (.tuple #[agV v.1 v.2.1 v.2.2, .int .i64 n]) ∧ Below w.heap.size w w' ∧
  ((oneV b = none ∧ n = 0) ∨ ∃ r, oneV b = some (v, r) ∧ n = (b.length : Int) - r.length)
theorem OneV.no {w : World} {b : List UInt8} {w' : World} (k n : Int) (s : ByteArray) (hb : Below w.heap.size w w') (h : oneV b = none) : OneV w b (.returned (.tuple #[agV k n s, .int .i64 0])) w' := ⟨(k, n, s), 0, rfl, hb, .inl ⟨h, rfl⟩⟩
theorem OneV.yes {w : World} {b : List UInt8} {w' : World} (k n : Int) (s : ByteArray) (r : List UInt8) (m : Int) (hb : Below w.heap.size w w') (h : oneV b = some ((k, n, s), r)) (hm : m = (b.length : Int) - r.length) : OneV w b (.returned (.tuple #[agV k n s, .int .i64 m])) w' := ⟨(k, n, s), m, rfl, hb, .inr ⟨r, h, hm⟩⟩
theorem wrap_byte (c : UInt8) : wrap64 (c.toNat : Int) = c.toNat := by have := UInt8.toNat_lt c; unfold wrap64; omega
theorem conv_byte (c : UInt8) (W : World) : (convert 5 3 (.int .u8 c.toNat)).run Tryd.prog W = .ok (.int .i64 c.toNat) W := by
  have h : IntKind.i64.wrap (c.toNat : Int) = c.toNat := by have := UInt8.toNat_lt c; rw [IntKind.wrap_i64]; omega
  simp [go_sem, h]
theorem conv_byte64 (c : UInt8) (W : World) : (convert 5 69 (.int .u8 c.toNat)).run Tryd.prog W = .ok (.int .u64 c.toNat) W := by
  have h : IntKind.u64.wrap (c.toNat : Int) = c.toNat := by have := UInt8.toNat_lt c; rw [IntKind.wrap_u64]; omega
  simp [go_sem, h]

/-- The slice s holds the bytes b, and lies within its capacity. -/
def Bs (w : World) (s : Value) (b : List UInt8) : Prop := Sl w s b.length 1 (bcs b) ∧ ∃ ad cap, s = .slice ad b.length cap ∧ b.length ≤ cap ∧ cap ≤ maxLen
theorem Bs.below {w w' : World} {s : Value} {b : List UInt8} (h : Bs w s b) (hb : Below w.heap.size w w') : Bs w' s b := ⟨h.1.below hb, h.2⟩
theorem Bs.open {w : World} {s : Value} {b : List UInt8} (h : Bs w s b) (h0 : b.length ≠ 0) : ∃ g off cap, s = .slice (some ⟨g, off, none⟩) b.length cap ∧ b.length ≤ cap ∧ cap ≤ maxLen ∧ ∀ j u, (bcs b)[j]? = some u → w.cell? ⟨g, off + j, none⟩ = some u := by
  obtain ⟨g, off, cap, rfl, hc⟩ := h.1.open h0
  obtain ⟨ad, cap2, he, h1, h2⟩ := h.2
  simp only [Value.slice.injEq] at he
  obtain ⟨_, _, rfl⟩ := he
  exact ⟨g, off, cap, rfl, h1, h2, hc⟩
theorem Bf.bs {W0 w : World} {v : Value} {b : List UInt8} (h : Bf W0 w v b) : Bs w v b := by
  refine ⟨h.sl, ?_⟩
  rcases h.1.2 with ⟨rfl, h0⟩ | ⟨g, cap, cur, rfl, _, _, h1, h2, _⟩
  · exact ⟨none, 0, by rw [h0], by omega, by unfold maxLen; omega⟩
  · exact ⟨_, cap, rfl, h1, h2⟩
theorem one_bool (b : List UInt8) (s : Value) (w : World) (hl : b.length ≤ 1000000) (hs : Bs w s (3 :: b)) : Calls Tryd.prog 39 #[s] w (OneV w (3 :: b)) := by
  obtain ⟨g, off, cap, rfl, hcap, hcm, hc⟩ := hs.open (by simp)
  rw [List.length_cons] at hcap ⊢
  have c0 : w.cell? ⟨g, off, none⟩ = some (.int .u8 3) := hc 0 _ rfl
  have hg0 := block_of_cell c0
  have hg1 : g < w.heap.size + 1 := by omega
  cases b with
  | nil =>
    clear hs hc
    go_enter Tryd.func39, Tryd.ntmps39
    go_wp2
    refine bodyPost_ret (v := .tuple #[agV 3 0 ⟨#[]⟩, .int .i64 0]) (by simp [results, Tryd.results39, go_sem]) rfl ?_
    exact OneV.no _ _ _ (by go_grown) rfl
  | cons x b =>
    have c1 : w.cell? ⟨g, off + 1, none⟩ = some (.int .u8 x.toNat) := hc 1 _ rfl
    have hcv := conv_byte x
    have hlen : (1 : Int) < ((b.length + 1 + 1 : Nat) : Int) := by omega
    clear hs hc
    rw [List.length_cons] at hl hcap ⊢
    go_enter Tryd.func39, Tryd.ntmps39
    go_wp2
    refine bodyPost_ret (v := .tuple #[agV 3 x.toNat ⟨#[]⟩, .int .i64 2]) (by simp [results, Tryd.results39, go_sem]) rfl ?_
    exact OneV.yes _ _ _ b _ (by go_grown) rfl (by simp; omega)

set_option maxRecDepth 20000 in
theorem one_text (b : List UInt8) (s : Value) (w : World) (hl : b.length ≤ 900000) (hs : Bs w s (2 :: b)) : Calls Tryd.prog 39 #[s] w (OneV w (2 :: b)) := by
  have hix := idx0_spl (2 :: b) 0
  have hsp : spl (2 :: b) = (spl b).map fun p => (2 :: p.1, p.2) := by rw [spl, if_neg (by decide)]
  have hone : oneV (2 :: b) = (spl b).map fun p => ((2, 0, ⟨p.1.toArray⟩), p.2) := by rw [oneV_cons, if_pos (by rfl)]
  have HI := fun W h => index_any (2 :: b) s W (by simp; omega) h
  rw [hix, hsp] at HI
  obtain ⟨g, off, cap, rfl, hcap, hcm, hc⟩ := hs.open (by simp)
  unfold maxLen at hcm
  rw [List.length_cons] at HI hcap ⊢
  have hcap1 : (b.length : Int) + 1 ≤ (cap : Int) := by omega
  have c0 : w.cell? ⟨g, off, none⟩ = some (.int .u8 2) := hc 0 _ rfl
  have hg0 := block_of_cell c0
  have hg1 : g < w.heap.size + 1 := by omega
  have HC := Lib.hid hc
  have HS := Lib.hid hs.1
  clear hs hc hix hsp
  cases hb : spl b with
  | none =>
    rw [hb] at hone HI
    replace HI := fun W h => (show Calls _ _ _ _ fun e w' => e = .returned (.int .i64 (-1)) ∧ W = w' from HI W h)
    have HO := Lib.hid hone
    clear hone hb
    go_enter Tryd.func39, Tryd.ntmps39
    go_wp2_with (fail)
    refine (HI _ (HS.out.below (by go_grown))).mono ?_
    rintro e w1 ⟨rfl, rfl⟩
    go_wp2
    refine bodyPost_ret (v := .tuple #[agV 2 0 ⟨#[]⟩, .int .i64 0]) (by simp [results, Tryd.results39, go_sem]) rfl ?_
    exact OneV.no _ _ _ (by go_grown) HO.out
  | some p =>
    obtain ⟨t, r⟩ := p
    rw [hb] at hone HI
    obtain ⟨hbt, hnz⟩ := spl_lt b t r hb
    have hblen : b.length = t.length + r.length + 1 := by rw [hbt]; simp; omega
    replace HI := fun W h => (show Calls _ _ _ _ fun e w' => e = .returned (.int .i64 ((t.length + 1 : Nat) : Int)) ∧ W = w' from by
      have := HI W h
      simpa using this)
    have HO := Lib.hid hone
    have hcv : ∀ W : World, Below w.heap.size w W → ∀ c, (convert 23 9 (.slice (some ⟨g, off + 1, none⟩) t.length c)).run Tryd.prog W = .ok (.string ⟨t.toArray⟩) W := by
      intro W hW c
      refine run_convert_bytes_back (P := Tryd.prog) _ 23 9 5 _ c t Tryd.underlying23 Tryd.underlying5 Tryd.underlying9 ?_
      intro j hj
      have hk := HC.out (j + 1) _ (bcs_get (2 :: b) (j + 1) (t[j]) (by rw [List.getElem?_cons_succ, hbt, List.getElem?_append_left hj]; exact List.getElem?_eq_getElem hj))
      have := cell_kept hk hW
      rw [show off + (j + 1) = off + 1 + j by omega] at this
      have hadd : (⟨g, off + 1, none⟩ : Addr).add j = ⟨g, off + 1 + j, none⟩ := by unfold Addr.add; split <;> simp_all
      rw [hadd]
      exact this
    have HBL := Lib.hid hblen
    have hbl : (t.length : Int) + 1 ≤ (b.length : Int) := by omega
    have hcv' := hcv ((w.alloc (.cells #[.int .i64 0, .int .i64 0, .string ⟨#[]⟩] 32)).alloc (.cells #[.int .i64 2, .int .i64 0, .string ⟨#[]⟩] 32)) (by go_grown) (cap - 1)
    have htc : (t.length : Int) + 1 ≤ (cap : Int) := by omega
    clear hone hb hbt hnz hblen hcv
    go_enter Tryd.func39, Tryd.ntmps39
    go_wp2_with (fail)
    refine (HI _ (HS.out.below (by go_grown))).mono ?_
    rintro e w1 ⟨rfl, rfl⟩
    go_wp2
    refine bodyPost_ret (v := .tuple #[agV 2 0 ⟨t.toArray⟩, .int .i64 ((t.length : Int) + 1 + 1)]) (by simp [results, Tryd.results39, go_sem]) rfl ?_
    exact OneV.yes _ _ _ r _ (by go_grown) HO.out (by have := HBL.out; simp; omega)

/-- The number of the first j of the bytes. -/
theorem num8_take (b : List UInt8) (j : Nat) (c : UInt8) (h : b[j]? = some c) : num8 (b.take (j + 1)) = num8 (b.take j) * 256 + c.toNat := by
  rw [List.take_add_one, h]
  unfold num8
  rw [List.foldl_append]; rfl
theorem num8_lt : ∀ (b : List UInt8), num8 b < 256 ^ b.length := by
  intro b
  have key : ∀ (l : List UInt8) (n m : Nat), n < 256 ^ m → l.foldl (fun n c => n * 256 + c.toNat) n < 256 ^ (m + l.length) := by
    intro l
    induction l with
    | nil => intro n m h; simpa using h
    | cons c l ih =>
      intro n m h
      rw [List.foldl_cons, List.length_cons, show m + (l.length + 1) = m + 1 + l.length by omega]
      refine ih _ _ ?_
      have := UInt8.toNat_lt c
      rw [Nat.pow_succ]
      omega
  have := key b 0 0 (by decide)
  simpa [num8] using this
theorem or_byte (n : Nat) (c : UInt8) (h : n < 72057594037927936) (W : World) : (binOp .or 69 (.int .u64 ((n * 256 : Nat) : Int)) (.int .u64 c.toNat)).run Tryd.prog W = .ok (.int .u64 ((n * 256 + c.toNat : Nat) : Int)) W := by
  have hc := UInt8.toNat_lt c
  have e : bits .or .u64 ((n * 256 : Nat) : Int) (c.toNat : Int) = ((n * 256 + c.toNat : Nat) : Int) := by
    have := bits_or_u64_nat (n * 256) c.toNat (by omega) (by omega)
    rw [this]
    have h2 := Nat.two_pow_add_eq_or_of_lt (i := 8) (b := c.toNat) (by omega) n
    rw [show (2 : Nat) ^ 8 = 256 from rfl] at h2
    rw [Nat.mul_comm n 256, ← h2]
  simp only [go_sem]
  rw [← e]; simp [go_sem]
theorem shl_byte (n : Nat) (h : n < 72057594037927936) (W : World) : (binOp .shl 69 (.int .u64 (n : Int)) (.int .u64 8)).run Tryd.prog W = .ok (.int .u64 ((n * 256 : Nat) : Int)) W := by
  have e : IntKind.u64.wrap ((n : Int) * 256) = ((n * 256 : Nat) : Int) := by rw [IntKind.wrap_u64]; omega
  simp [go_sem]
  rw [e]; simp
theorem back_num (m : Nat) (h : m < 18446744073709551616) : ∃ M : Nat, (∀ W : World, (binOp .xor 69 (.int .u64 (m : Int)) (.int .u64 9223372036854775808)).run Tryd.prog W = .ok (.int .u64 (M : Int)) W) ∧ ∀ W : World, (convert 69 3 (.int .u64 (M : Int))).run Tryd.prog W = .ok (.int .i64 ((m : Int) - 9223372036854775808)) W := by
  have h1 := bits_xor_u64_nat m 9223372036854775808 h (by omega)
  rw [show ((9223372036854775808 : Nat) : Int) = 9223372036854775808 from rfl] at h1
  have h2 := bits_back m h
  rw [h1] at h2
  refine ⟨m ^^^ 9223372036854775808, fun W => ?_, fun W => ?_⟩
  · simp [go_sem, h1]
  · simp [go_sem, h2]
end Go.Proofs.YtgfppajbegcaeaaDoor.Va
