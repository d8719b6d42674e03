/-
  The walk of the reference's Decode (layer 33).
-/
import Derived.Test.YtgfppajbegcaeaaDoorVaN
import Derived.Deep.Cut
set_option linter.unusedSimpArgs false
set_option linter.unusedVariables false
namespace Go.Proofs.YtgfppajbegcaeaaDoor.Va
open Go.RowKit Go.ChangeShapes Go.WideShapes Go.Proofs.YtgfppajbegcaeaaDoor.Sl

/-- append(v, x), x a value. -/
theorem wp_val {ops : Array Oper} {rest : List Oper} {o : Oper} {a : Act} {Q : Exit → Act → World → Prop} {W0 w : World} {v : Value} {l : List V3} (hB : Vf W0 w v l) (hgd : o.guard = none) (s x : Operand)
    (ho : o.op = .call { callee := .builtin .append, args := #[s, x], argTypes := #[22, 22] }) (hs : a.eval s = v) {H : Nat} (te : TypeId)
    (hx : a.eval x = .slice (some ⟨H, 0, none⟩) 1 1) (hH : w.heap.size = H) (u : V3) (hlen : l.length ≤ 1000000)
    (h : ∀ v' w', Vf W0 w' v' (l ++ [u]) → wpList Tryd.prog ops Q rest (a.put o.dst v') w') : wpList Tryd.prog ops Q (o :: rest) a (w.alloc (.cells #[.int .i64 u.1, .int .i64 u.2.1, .string u.2.2] te)) := by
  obtain ⟨i0, hi, hz0, hz1, hz2⟩ := info_parts infoV
  subst hH
  have ho1 := hB.1.alloc (.cells #[.int .i64 u.1, .int .i64 u.2.1, .string u.2.2] te)
  refine wpList_append_lies _ hgd s x _ ho W0.heap.size _ i0 _ 3 32 Tryd.underlying22 hi hz0 hz1 hz2 rfl (by decide) v l.length (flatV l) hs ho1 ⟨w.heap.size, 0, none⟩ 1 1 [.int .i64 u.1, .int .i64 u.2.1, .string u.2.2] hx rfl (cells_new w [.int .i64 u.1, .int .i64 u.2.1, .string u.2.2] te) (by intro x hx; simp at hx; rcases hx with rfl | rfl | rfl <;> rfl) (by omega) (by unfold maxLen; omega) (by omega) (by have := hB.2.size; simp; omega) (w.heap.size + 1) (by simp) ?_
  intro g cap w' h2 h3 _ _
  refine h _ w' ⟨?_, (hB.2.alloc hB.2.size _).grown h3 (by have := hB.2.size; simp; omega) (fun k hk => (ho1.lt k hk).1)⟩
  rw [flatV_snoc, List.length_append]
  exact h2
theorem spl_at (l : List UInt8) (j : Nat) (c : UInt8) (h : l[j]? = some c) (hc : ¬ c = 0) : spl (l.drop j) = (spl (l.drop (j + 1))).map fun p => (c :: p.1, p.2) := by
  have hk := List.getElem?_eq_some_iff.1 h
  rw [List.drop_eq_getElem_cons hk.1, hk.2, spl, if_neg hc]
theorem spl_stop (l : List UInt8) (j : Nat) (h : l[j]? = some 0) : spl (l.drop j) = some ([], l.drop (j + 1)) := by
  have hk := List.getElem?_eq_some_iff.1 h
  rw [List.drop_eq_getElem_cons hk.1, hk.2, spl, if_pos rfl]
theorem dec_kind (c : UInt8) (r : List UInt8) (acc : List V3) (h1 : ¬ c.toNat = 1) (h2 : ¬ c.toNat = 2) (h3 : ¬ c.toNat = 3) (h4 : ¬ c.toNat = 4) : decA (c :: r).length acc (c :: r) = none := by
  have ho := one_num_eq c r h2 h3
  by_cases h8 : r.length < 8
  · rw [if_pos h8] at ho
    exact decA_none acc _ ho (by simp)
  · rw [if_neg h8] at ho
    have hv : validV ((c.toNat : Int), (num8 (r.take 8) : Int) - 9223372036854775808, ⟨#[]⟩) = false := by
      simp only [validV]
      rw [if_neg (by omega), if_neg (by omega), if_neg (by omega), if_neg (by omega)]
    rw [decA_step acc _ _ _ ho, if_pos (.inl hv)]
theorem conv_one (c : UInt8) (W : World) : (convert 23 9 (.slice (some ⟨W.heap.size, 0, none⟩) 1 1)).run Tryd.prog (W.alloc (.cells #[.int .u8 c.toNat] 5)) = .ok (.string ⟨#[c]⟩) (W.alloc (.cells #[.int .u8 c.toNat] 5)) := by
  refine run_convert_bytes_back (P := Tryd.prog) _ 23 9 5 _ 1 [c] Tryd.underlying23 Tryd.underlying5 Tryd.underlying9 ?_
  intro j hj
  refine cells_new W [.int .u8 c.toNat] 5 j _ ?_
  rcases j with _ | j
  · rfl
  · exact absurd hj (by simp)
theorem box_frozen {w : World} {P : Nat} {cs : Array Value} {T : TypeId} (h : w.heap[P]? = some (Obj.cells cs T (0, 0))) (j : Nat) : w.frozen? ⟨P, j, none⟩ = false := by simp [World.frozen?, h]
theorem cat_one (S : ByteArray) (x : UInt8) (h : S.size ≤ 900000) (W : World) : (binOp .add 9 (.string S) (.string ⟨#[x]⟩)).run Tryd.prog W = .ok (.string (S ++ ⟨#[x]⟩)) W := by
  have hx : (⟨#[x]⟩ : ByteArray).size = 1 := rfl
  have := run_string_add_sum (P := Tryd.prog) (w := W) S ⟨#[x]⟩ (by rw [hx]; omega)
  simpa [binOp] using this
theorem add_eq (n : Nat) (c : UInt8) (h : n < 72057594037927936) : IntKind.u64.wrap (IntKind.u64.wrap ((n : Int) * 256) + IntKind.u64.wrap (c.toNat : Int)) = ((n * 256 + c.toNat : Nat) : Int) := by
  have hc := UInt8.toNat_lt c
  have e0 : IntKind.u64.wrap (c.toNat : Int) = c.toNat := by rw [IntKind.wrap_u64]; omega
  have e : IntKind.u64.wrap ((n : Int) * 256) = ((n * 256 : Nat) : Int) := by rw [IntKind.wrap_u64]; omega
  rw [e, e0, IntKind.wrap_u64]; omega
theorem sub_eq (m : Nat) (h : m < 18446744073709551616) : wrap64 (IntKind.u64.wrap ((m : Int) - 9223372036854775808)) = (m : Int) - 9223372036854775808 := by
  rw [IntKind.wrap_u64]; unfold wrap64; omega
theorem Vf.drew {W0 w : World} {v : Value} {b : List V3} (h : Vf W0 w v b) : Vf W0 w.drew v b := ⟨h.1.drew, bdrew h.2⟩
theorem Vf.setP {W0 w : World} {v : Value} {b : List V3} (h : Vf W0 w v b) {P j : Nat} {u : Value} (hP : W0.heap.size ≤ P) (hne : v.ownBlock ≠ some P) : Vf W0 (w.setCell ⟨P, j, none⟩ u) v b := by
  have hB : Below 0 w (w.setCell ⟨P, j, none⟩ u) := (Below.refl 0 w).setCell (p := ⟨P, j, none⟩) (Nat.zero_le _) u
  refine ⟨h.1.kept (row := some P) ⟨hB.os, hB.tape, hB.output, by simp, fun k hk hn => Below.heap_setCell _ _ _ _ (by show k ≠ P; exact fun e => hn (by rw [e]))⟩ (.inr hne), h.2.setCell (p := ⟨P, j, none⟩) hP u⟩
theorem drop_cons (b : List UInt8) (k : Nat) (c : UInt8) (h : b[k]? = some c) : b.drop k = c :: b.drop (k + 1) := by
  have hk := List.getElem?_eq_some_iff.1 h
  rw [List.drop_eq_getElem_cons hk.1, hk.2]

set_option maxRecDepth 100000 in
set_option maxHeartbeats 4000000 in
theorem rdecode_any (b : List UInt8) (s : Value) (w : World) (hl : b.length ≤ 900000) (hs : Bs w s b) : Calls Tryd.prog 12 #[s] w (DecP w (decA b.length [] b)) := by
  obtain ⟨Z, hZ⟩ : ∃ Z, decA b.length [] b = Z := ⟨_, rfl⟩
  have HZ := Lib.hid hZ
  have HS := Lib.hid hs
  rw [hZ]
  obtain ⟨ad, cap, rfl⟩ := hs.1.form
  obtain ⟨n, hn⟩ : ∃ n, n = b.length := ⟨_, rfl⟩
  have HN := Lib.hid hn
  rw [← hn] at hl ⊢
  clear hZ hs hn
  go_enter Tryd.func12, Tryd.ntmps12
  go_wp2
  go_loopw [4, 5] (fun v i wr => ∃ (k : Nat) (acc : List V3), k ≤ n ∧ i = .int .i64 k ∧ Hid (decA (b.drop k).length acc (b.drop k) = Z) ∧ acc.length ≤ 1000 ∧ Vf w wr v acc) (fun _ i _ => n - (intOf i).toNat)
  case atStart => exact ⟨0, [], Nat.zero_le _, rfl, Lib.hid HZ.out, by simp, World.ownsRow_nil _ _ _ _, Below.refl _ _⟩
  case round =>
    obtain ⟨k, acc, hk, rfl, HI, hN1, hV⟩ := hrel
    obtain ⟨va, vc, rfl⟩ := hV.vs.form
    obtain ⟨N, hNa⟩ : ∃ N, N = acc.length := ⟨_, rfl⟩
    have HNA := Lib.hid hNa
    rw [← hNa] at hV hN1 ⊢
    clear hNa
    by_cases hlt : k < n
    · obtain ⟨c, hc⟩ : ∃ c, b[k]? = some c := ⟨_, List.getElem?_eq_getElem (by rw [← HN.out]; exact hlt)⟩
      obtain ⟨g, off, cap2, hsl, hcap, hcm, hcell⟩ := HS.out.open (by rw [← HN.out]; omega)
      simp only [Value.slice.injEq] at hsl
      obtain ⟨rfl, hx, rfl⟩ := hsl
      clear hx hcap hcm
      have HC := Lib.hid hcell
      have c0 := cell_kept (hcell k _ (bcs_get b k c hc)) hV.2
      have HD := Lib.hid (drop_cons b k c hc)
      have k0 : (0 : Int) ≤ (k : Int) := by omega
      have k1 : (k : Int) < (n : Int) := by omega
      have HNP := Lib.hid (show (Value.slice va N vc).ownBlock ≠ some wr.heap.size from fun e => by have := (hV.1.lt _ e).2; omega)
      have hWP := hV.2.size
      have hP := box_new wr #[.int .i64 c.toNat, .int .i64 0, .string ⟨#[]⟩] 32
      replace hV := hV.alloc (.cells #[.int .i64 c.toNat, .int .i64 0, .string ⟨#[]⟩] 32)
      have hcv := conv_byte c
      clear hcell hc
      by_cases c2 : c.toNat = 2
      · have e3 : (c.toNat : Int) = 2 := by omega
        replace HD : Hid (b.drop k = 2 :: b.drop (k + 1)) := Lib.hid (by rw [HD.out, show c = 2 from UInt8.toNat_inj.1 c2])
        rw [e3] at hP hV c0 hcv
        clear c2 e3
        have HON : Hid (oneV (b.drop k) = (spl (b.drop (k + 1))).map fun p => ((2, 0, ⟨p.1.toArray⟩), p.2)) := Lib.hid (by rw [HD.out, oneV_cons, if_pos (by rfl)])
        go_wp2
        generalize hPw : wr.heap.size = P at *
        go_loopw [5, 7] (fun i v wq => ∃ (m : Nat) (S : ByteArray), k + 1 ≤ m ∧ m ≤ n ∧ i = .int .i64 m ∧ v = .string S ∧ S.size ≤ m ∧ Hid (spl (b.drop (k + 1)) = (spl (b.drop m)).map fun p => (S.data.toList ++ p.1, p.2)) ∧ Vf w wq (.slice va N vc) acc ∧ wq.heap[P]? = some (Obj.cells #[Value.int IntKind.i64 2, Value.int IntKind.i64 0, Value.string ⟨#[]⟩] 32 (0, 0))) (fun i _ _ => n - (intOf i).toNat)
        case atStart => exact ⟨k + 1, ⟨#[]⟩, by omega, by omega, by go_num, rfl, Nat.zero_le _, Lib.hid (by cases spl (b.drop (k + 1)) <;> rfl), hV, hP⟩
        case round =>
          clear hV hP
          obtain ⟨m, S, hm1, hm2, rfl, rfl, hSs, HSP, hV, hP⟩ := hrel
          by_cases hmn : m < n
          · obtain ⟨x, hx⟩ : ∃ x, b[m]? = some x := ⟨_, List.getElem?_eq_getElem (by rw [← HN.out]; exact hmn)⟩
            have x0 := cell_kept (HC.out m _ (bcs_get b m x hx)) hV.2
            have m0 : (0 : Int) ≤ (m : Int) := by omega
            have m1 : (m : Int) < (n : Int) := by omega
            by_cases hx0 : x = 0
            · have hsp := HSP.out
              rw [spl_stop b m (hx0 ▸ hx)] at hsp
              have HO := Lib.hid (show oneV (b.drop k) = some ((2, 0, S), b.drop (m + 1)) by rw [HON.out, hsp]; simp)
              subst hx0
              have mn : ((m : Int) == (n : Int)) = false := by rw [beq_eq_false_iff_ne]; omega
              have mn2 : ¬ (m : Int) = (n : Int) := by omega
              clear hsp hx
              obtain ⟨d0, d1, d2⟩ := box3 hP
              have f1 := box_frozen hP 2
              clear hP
              go_upto_region 30 with (fail)
              have hneP : (Value.slice va N vc).ownBlock ≠ some P := HNP.out
              have e0 : (wr.setCell ⟨P, 2, none⟩ (.string S)).cell? ⟨P, 0, none⟩ = some (.int .i64 2) := by simp [go_sem, d0, d1, d2, f1]
              have e1 : (wr.setCell ⟨P, 2, none⟩ (.string S)).cell? ⟨P, 1, none⟩ = some (.int .i64 0) := by simp [go_sem, d0, d1, d2, f1]
              have e2 : (wr.setCell ⟨P, 2, none⟩ (.string S)).cell? ⟨P, 2, none⟩ = some (.string S) := by simp [go_sem, d0, d1, d2, f1]
              replace hV := (hV.setP (P := P) (j := 2) (u := .string S) hWP hneP)
              replace d0 := e0
              replace d1 := e1
              replace d2 := e2
              clear f1 hneP e0 e1 e2
              generalize (wr.setCell ⟨P, 2, none⟩ (.string S)) = ws at *
              -- behind the switch: the value stands in the box
              have hst := decA_step acc (b.drop k) _ _ HO.out
              rw [HI.out] at hst
              have HST := Lib.hid hst
              have HVV := fun W => rvalid_any (2, 0, S) W (by show S.size ≤ _; omega)
              clear hst
              cases hval : validV (2, 0, S)
              · rw [hval] at HVV
                have HE := Lib.hid (show Z = none by rw [HST.out, if_pos (.inl hval)])
                clear hval
                go_wp2_with (go_at_call 34; (with_reducible refine (HVV _).mono ?_); rintro e w2 ⟨rfl, hb2⟩; have hL := bstep hV.2 hb2)
                go_ret2
                exact DecP.no HE.out hL
              · rw [hval] at HVV
                by_cases hacc : N = 1000
                · have HE := Lib.hid (show Z = none by rw [HST.out, if_pos (.inr (by rw [← HNA.out]; exact hacc))])
                  clear hval
                  subst hacc
                  go_wp2_with (go_at_call 34; (with_reducible refine (HVV _).mono ?_); rintro e w2 ⟨rfl, hb2⟩; have hL := bstep hV.2 hb2)
                  go_ret2
                  exact DecP.no HE.out hL
                · have HE := Lib.hid (show Z = decA (b.drop (m + 1)).length (acc ++ [(2, 0, S)]) (b.drop (m + 1)) by rw [HST.out, if_neg (by rw [← HNA.out]; simp [hval, hacc])])
                  have hacc2 : ((N : Int) == 1000) = false := by rw [beq_eq_false_iff_ne]; omega
                  have hacc3 : ¬ (N : Int) = 1000 := by omega
                  clear hval
                  go_wp2_with (first | (go_at_call 34; (with_reducible refine (HVV _).mono ?_); rintro e w2 ⟨rfl, hb2⟩; have hV2 := hV.below hb2; replace d0 := cell_kept d0 hb2; replace d1 := cell_kept d1 hb2; replace d2 := cell_kept d2 hb2) | (at_builtin; refine wp_val hV2 rfl (.tmp 105) (.tmp 107) rfl rfl 32 rfl (by simp) (2, 0, S) (by rw [← HNA.out]; omega) ?_; intro v3 w3 hV3))
                  go_roundw
                  case rel => exact ⟨m + 1, acc ++ [(2, 0, S)], by omega, by go_num, Lib.hid HE.out.symm, by rw [List.length_append, ← HNA.out]; simp; omega, hV3⟩
                  case measure => simp [intOf]; omega
            · have hz1 : ((x.toNat : Int) == 0) = false := by
                rw [beq_eq_false_iff_ne]; intro h; exact hx0 ((zero_iff x).2 (by omega))
              have hz2 : ¬ (x.toNat : Int) = 0 := by intro h; exact hx0 ((zero_iff x).2 (by omega))
              have HSP2 := Lib.hid (show spl (b.drop (k + 1)) = (spl (b.drop (m + 1))).map fun p => ((S ++ ⟨#[x]⟩ : ByteArray).data.toList ++ p.1, p.2) by
                rw [HSP.out, spl_at b m x hx hx0, Option.map_map]
                congr 1
                funext p
                simp)
              obtain ⟨X, hX⟩ : ∃ X : ByteArray, X = ⟨#[x]⟩ := ⟨_, rfl⟩
              have hcx := conv_one x wr
              have hadd := cat_one S x (show S.size ≤ 900000 by omega)
              have hXs : X.size = 1 := by rw [hX]; rfl
              have hsz : (S ++ ⟨#[x]⟩ : ByteArray).size ≤ m + 1 := by rw [ByteArray.size_append]; have : (⟨#[x]⟩ : ByteArray).size = 1 := rfl; omega
              have HSZ := Lib.hid hsz
              have hV2 := hV.alloc (.cells #[.int .u8 x.toNat] 5)
              have HP2 := Lib.hid ((KeepT.alloc wr (.cells #[.int .u8 x.toNat] 5)).2 _ _ _ (by decide) hP)
              have hSb : S.size ≤ 900000 := by omega
              have hXb : X.size ≤ 1 := by omega
              rw [← hX] at HSP2 HSZ hcx hadd
              clear hx hx0 hsz hP hX hXs
              go_wp2
              go_roundw
              case rel => exact ⟨m + 1, _, by omega, by omega, by go_num, rfl, HSZ.out, HSP2, hV2, HP2.out⟩
              case measure => simp [intOf]; omega
          · obtain rfl : m = n := by omega
            have hd : b.drop m = [] := List.drop_of_length_le (by rw [← HN.out]; omega)
            have HE := Lib.hid (show Z = none by
              rw [← HI.out]
              refine decA_none acc _ ?_ (by rw [HD.out]; simp)
              rw [HON.out, HSP.out, hd]; rfl)
            clear hd
            go_wp2
            go_ret2
            exact DecP.no HE.out hV.2
      · by_cases c3 : c.toNat = 3
        · have e3 : (c.toNat : Int) = 3 := by omega
          replace HD : Hid (b.drop k = 3 :: b.drop (k + 1)) := Lib.hid (by rw [HD.out, show c = 3 from UInt8.toNat_inj.1 c3])
          rw [e3] at hP hV c0 hcv
          clear c2 c3 e3
          by_cases he : k + 1 = n
          · have HE := Lib.hid (show Z = none by
              rw [← HI.out, HD.out, List.drop_of_length_le (by rw [← HN.out]; omega)]; rfl)
            have he2 : (k : Int) + 1 = (n : Int) := by omega
            go_wp2
            go_ret2
            exact DecP.no HE.out hV.2
          · obtain ⟨x, hx⟩ : ∃ x, b[k + 1]? = some x := ⟨_, List.getElem?_eq_getElem (by rw [← HN.out]; omega)⟩
            have ho : oneV (b.drop k) = some ((3, (x.toNat : Int), ⟨#[]⟩), b.drop (k + 2)) := by rw [HD.out, drop_cons b (k + 1) x hx]; rfl
            have x0 := cell_kept (HC.out _ _ (bcs_get b (k + 1) x hx)) hV.2
            have hcx := conv_byte x
            have hkn : 0 ≤ (k : Int) + 1 ∧ (k : Int) + 1 < (n : Int) := by omega
            have he2 : ((k : Int) + 1 == (n : Int)) = false := by rw [beq_eq_false_iff_ne]; omega
            have he3 : ¬ (k : Int) + 1 = (n : Int) := by omega
            have HO := Lib.hid ho
            clear ho hx he
            go_wp2
            generalize hwq : wr.alloc (.cells #[.int .i64 3, .int .i64 0, .string ⟨#[]⟩] 32) = wq at *
            obtain ⟨d0, d1, d2⟩ := box3 hP
            have f1 := box_frozen hP 1
            have hgP : ¬ g = wr.heap.size := by have := block_of_cell c0; omega
            clear hwq hP
            have hneP : (Value.slice va N vc).ownBlock ≠ some wr.heap.size := HNP.out
            go_region
            have e0 : (wq.setCell ⟨wr.heap.size, 1, none⟩ (.int .i64 x.toNat)).drew.cell? ⟨wr.heap.size, 0, none⟩ = some (.int .i64 3) := by simp [go_sem, d0, d1, f1]
            have e1 : (wq.setCell ⟨wr.heap.size, 1, none⟩ (.int .i64 x.toNat)).drew.cell? ⟨wr.heap.size, 1, none⟩ = some (.int .i64 x.toNat) := by simp [go_sem, d0, d1, f1]
            have e2 : (wq.setCell ⟨wr.heap.size, 1, none⟩ (.int .i64 x.toNat)).drew.cell? ⟨wr.heap.size, 2, none⟩ = some (.string ⟨#[]⟩) := by simp [go_sem, d0, d1, d2, f1]
            replace hV := (hV.setP (P := wr.heap.size) (j := 1) (u := .int .i64 x.toNat) hWP hneP).drew
            replace d0 := e0
            replace d1 := e1
            replace d2 := e2
            clear f1 hneP e0 e1 e2
            generalize (wq.setCell ⟨wr.heap.size, 1, none⟩ (.int .i64 x.toNat)).drew = ws at *
            -- behind the switch: the value stands in the box
            have hst := decA_step acc (b.drop k) _ _ HO.out
            rw [HI.out] at hst
            have HST := Lib.hid hst
            have HVV := fun W => rvalid_any (3, (x.toNat : Int), ⟨#[]⟩) W (by show 0 ≤ _; omega)
            clear hst
            cases hval : validV (3, (x.toNat : Int), ⟨#[]⟩)
            · rw [hval] at HVV
              have HE := Lib.hid (show Z = none by rw [HST.out, if_pos (.inl hval)])
              clear hval
              go_wp2_with (go_at_call 34; (with_reducible refine (HVV _).mono ?_); rintro e w2 ⟨rfl, hb2⟩; have hL := bstep hV.2 hb2)
              go_ret2
              exact DecP.no HE.out hL
            · rw [hval] at HVV
              by_cases hacc : N = 1000
              · have HE := Lib.hid (show Z = none by rw [HST.out, if_pos (.inr (by rw [← HNA.out]; exact hacc))])
                clear hval
                subst hacc
                go_wp2_with (go_at_call 34; (with_reducible refine (HVV _).mono ?_); rintro e w2 ⟨rfl, hb2⟩; have hL := bstep hV.2 hb2)
                go_ret2
                exact DecP.no HE.out hL
              · have HE := Lib.hid (show Z = decA (b.drop (k + 2)).length (acc ++ [(3, (x.toNat : Int), ⟨#[]⟩)]) (b.drop (k + 2)) by rw [HST.out, if_neg (by rw [← HNA.out]; simp [hval, hacc])])
                have hacc2 : ((N : Int) == 1000) = false := by rw [beq_eq_false_iff_ne]; omega
                have hacc3 : ¬ (N : Int) = 1000 := by omega
                clear hval
                go_wp2_with (first | (go_at_call 34; (with_reducible refine (HVV _).mono ?_); rintro e w2 ⟨rfl, hb2⟩; have hV2 := hV.below hb2; replace d0 := cell_kept d0 hb2; replace d1 := cell_kept d1 hb2; replace d2 := cell_kept d2 hb2) | (at_builtin; refine wp_val hV2 rfl (.tmp 105) (.tmp 107) rfl rfl 32 rfl (by simp) (3, (x.toNat : Int), ⟨#[]⟩) (by rw [← HNA.out]; omega) ?_; intro v3 w3 hV3))
                go_roundw
                case rel => exact ⟨k + 2, acc ++ [(3, (x.toNat : Int), ⟨#[]⟩)], by omega, by go_num, Lib.hid HE.out.symm, by rw [List.length_append, ← HNA.out]; simp; omega, hV3⟩
                case measure => simp [intOf]; omega
        · by_cases c14 : c.toNat = 1
          · have e3 : (c.toNat : Int) = 1 := by omega
            have h8 : ¬ c.toNat = 2 := by omega
            have h9 : ¬ c.toNat = 3 := by omega
            have hone := one_num_eq c (b.drop (k + 1)) h8 h9
            rw [← HD.out] at hone
            rw [e3] at hP hV c0 hcv hone
            have hdl : (b.drop (k + 1)).length = n - (k + 1) := by rw [List.length_drop, ← HN.out]
            rw [hdl] at hone
            clear c2 c3 e3 h8 h9 hdl c14
            by_cases he : n - (k + 1) < 8
            · rw [if_pos he] at hone
              have HE := Lib.hid (show Z = none by rw [← HI.out]; exact decA_none acc _ hone (by rw [HD.out]; simp))
              have he2 : ¬ (k : Int) + 1 + 8 ≤ (n : Int) := by omega
              clear he hone
              go_wp2
              go_ret2
              exact DecP.no HE.out hV.2
            · rw [if_neg he] at hone
              have HO1 := Lib.hid hone
              have he2 : (k : Int) + 1 + 8 ≤ (n : Int) := by omega
              have hkb : k + 9 ≤ n := by omega
              clear he hone
              have hCq : ∀ j u, (bcs b)[j]? = some u → (wr.alloc (.cells #[.int .i64 1, .int .i64 0, .string ⟨#[]⟩] 32)).cell? ⟨g, off + j, none⟩ = some u := fun j u hu => cell_kept (HC.out j u hu) hV.2
              have HCQ := Lib.hid hCq
              clear hCq
              go_wp2
              go_loop [8, 9] (fun v i => ∃ j : Nat, ∃ N : Nat, j ≤ 8 ∧ i = .int .i64 j ∧ v = .int .u64 (N : Int) ∧ N < 256 ^ j ∧ Hid (num8 ((b.drop (k + 1)).take j) = N)) (fun _ i => 8 - (intOf i).toNat)
              case atStart => exact ⟨0, 0, by omega, rfl, rfl, by decide, Lib.hid rfl⟩
              case round =>
                obtain ⟨j, M, hj, rfl, rfl, hN, HI2⟩ := hrel
                by_cases hlt : j < 8
                · obtain ⟨x, hx⟩ : ∃ x, (b.drop (k + 1))[j]? = some x := ⟨_, List.getElem?_eq_getElem (by rw [List.length_drop, ← HN.out]; omega)⟩
                  have e0 := HCQ.out (k + 1 + j) _ (bcs_get b (k + 1 + j) x (by rw [List.getElem?_drop] at hx; exact hx))
                  have hN2 : M < 72057594037927936 := Nat.lt_of_lt_of_le hN (Nat.pow_le_pow_right (n := 256) (by omega) (show j ≤ 7 by omega))
                  have hst := num8_take (b.drop (k + 1)) j x hx
                  rw [HI2.out] at hst
                  have HS2 := Lib.hid hst
                  have hbx := UInt8.toNat_lt x
                  have HP2 : Hid (M * 256 + x.toNat < 256 ^ (j + 1)) := Lib.hid (by rw [Nat.pow_succ]; omega)
                  have HE2 := Lib.hid (add_eq M x hN2)
                  have j0 : (0 : Int) ≤ (j : Int) := by omega
                  have j1 : (j : Int) < 8 := by omega
                  have j2 : (k : Int) + 1 + (j : Int) < (n : Int) := by omega
                  clear hst hx hbx hN hN2
                  go_wp2
                  go_round
                  case rel => exact ⟨j + 1, M * 256 + x.toNat, by omega, by go_num, congrArg _ HE2.out, HP2.out, HS2⟩
                  case measure => simp [intOf]; omega
                · obtain rfl : j = 8 := by omega
                  have hN2 : M < 18446744073709551616 := hN
                  have HE2 := Lib.hid (sub_eq M hN2)
                  have HO2 := HO1.out
                  rw [HI2.out] at HO2
                  have HO := Lib.hid (show oneV (b.drop k) = some ((1, (M : Int) - 9223372036854775808, ⟨#[]⟩), b.drop (k + 9)) by rw [HO2, List.drop_drop])
                  clear HO2 hN hN2
                  generalize hwq : wr.alloc (.cells #[.int .i64 1, .int .i64 0, .string ⟨#[]⟩] 32) = wq at *
                  obtain ⟨d0, d1, d2⟩ := box3 hP
                  have f1 := box_frozen hP 1
                  clear hwq hP
                  go_upto_region 30 with (fail)
                  rw [HE2.out]
                  obtain ⟨Y, hY⟩ : ∃ Y, Y = (M : Int) - 9223372036854775808 := ⟨_, rfl⟩
                  rw [← hY]
                  have HY := Lib.hid hY
                  clear hY
                  replace HO : Hid (oneV (b.drop k) = some ((1, Y, ⟨#[]⟩), b.drop (k + 9))) := Lib.hid (by rw [HO.out, HY.out])
                  have hneP : (Value.slice va N vc).ownBlock ≠ some wr.heap.size := HNP.out
                  have e0 : (wq.setCell ⟨wr.heap.size, 1, none⟩ (.int .i64 Y)).cell? ⟨wr.heap.size, 0, none⟩ = some (.int .i64 1) := by simp [go_sem, d0, d1, f1]
                  have e1 : (wq.setCell ⟨wr.heap.size, 1, none⟩ (.int .i64 Y)).cell? ⟨wr.heap.size, 1, none⟩ = some (.int .i64 Y) := by simp [go_sem, d0, d1, f1]
                  have e2 : (wq.setCell ⟨wr.heap.size, 1, none⟩ (.int .i64 Y)).cell? ⟨wr.heap.size, 2, none⟩ = some (.string ⟨#[]⟩) := by simp [go_sem, d0, d1, d2, f1]
                  replace hV := (hV.setP (P := wr.heap.size) (j := 1) (u := .int .i64 Y) hWP hneP)
                  replace d0 := e0
                  replace d1 := e1
                  replace d2 := e2
                  clear f1 hneP e0 e1 e2
                  generalize (wq.setCell ⟨wr.heap.size, 1, none⟩ (.int .i64 Y)) = ws at *
                  -- behind the switch: the value stands in the box
                  have hst := decA_step acc (b.drop k) _ _ HO.out
                  rw [HI.out] at hst
                  have HST := Lib.hid hst
                  have HVV := fun W => rvalid_any (1, Y, ⟨#[]⟩) W (by show 0 ≤ _; omega)
                  clear hst
                  cases hval : validV (1, Y, ⟨#[]⟩)
                  · rw [hval] at HVV
                    have HE := Lib.hid (show Z = none by rw [HST.out, if_pos (.inl hval)])
                    clear hval
                    go_wp2_with (go_at_call 34; (with_reducible refine (HVV _).mono ?_); rintro e w2 ⟨rfl, hb2⟩; have hL := bstep hV.2 hb2)
                    go_ret2
                    exact DecP.no HE.out hL
                  · rw [hval] at HVV
                    by_cases hacc : N = 1000
                    · have HE := Lib.hid (show Z = none by rw [HST.out, if_pos (.inr (by rw [← HNA.out]; exact hacc))])
                      clear hval
                      subst hacc
                      go_wp2_with (go_at_call 34; (with_reducible refine (HVV _).mono ?_); rintro e w2 ⟨rfl, hb2⟩; have hL := bstep hV.2 hb2)
                      go_ret2
                      exact DecP.no HE.out hL
                    · have HE := Lib.hid (show Z = decA (b.drop (k + 9)).length (acc ++ [(1, Y, ⟨#[]⟩)]) (b.drop (k + 9)) by rw [HST.out, if_neg (by rw [← HNA.out]; simp [hval, hacc])])
                      have hacc2 : ((N : Int) == 1000) = false := by rw [beq_eq_false_iff_ne]; omega
                      have hacc3 : ¬ (N : Int) = 1000 := by omega
                      clear hval
                      go_wp2_with (first | (go_at_call 34; (with_reducible refine (HVV _).mono ?_); rintro e w2 ⟨rfl, hb2⟩; have hV2 := hV.below hb2; replace d0 := cell_kept d0 hb2; replace d1 := cell_kept d1 hb2; replace d2 := cell_kept d2 hb2) | (at_builtin; refine wp_val hV2 rfl (.tmp 105) (.tmp 107) rfl rfl 32 rfl (by simp) (1, Y, ⟨#[]⟩) (by rw [← HNA.out]; omega) ?_; intro v3 w3 hV3))
                      go_roundw
                      case rel => exact ⟨k + 9, acc ++ [(1, Y, ⟨#[]⟩)], by omega, by go_num, Lib.hid HE.out.symm, by rw [List.length_append, ← HNA.out]; simp; omega, hV3⟩
                      case measure => simp [intOf]; omega
          by_cases c14' : c.toNat = 4
          · have e3 : (c.toNat : Int) = 4 := by omega
            have h8 : ¬ c.toNat = 2 := by omega
            have h9 : ¬ c.toNat = 3 := by omega
            have hone := one_num_eq c (b.drop (k + 1)) h8 h9
            rw [← HD.out] at hone
            rw [e3] at hP hV c0 hcv hone
            have hdl : (b.drop (k + 1)).length = n - (k + 1) := by rw [List.length_drop, ← HN.out]
            rw [hdl] at hone
            clear c2 c3 e3 h8 h9 hdl c14 c14'
            by_cases he : n - (k + 1) < 8
            · rw [if_pos he] at hone
              have HE := Lib.hid (show Z = none by rw [← HI.out]; exact decA_none acc _ hone (by rw [HD.out]; simp))
              have he2 : ¬ (k : Int) + 1 + 8 ≤ (n : Int) := by omega
              clear he hone
              go_wp2
              go_ret2
              exact DecP.no HE.out hV.2
            · rw [if_neg he] at hone
              have HO1 := Lib.hid hone
              have he2 : (k : Int) + 1 + 8 ≤ (n : Int) := by omega
              have hkb : k + 9 ≤ n := by omega
              clear he hone
              have hCq : ∀ j u, (bcs b)[j]? = some u → (wr.alloc (.cells #[.int .i64 4, .int .i64 0, .string ⟨#[]⟩] 32)).cell? ⟨g, off + j, none⟩ = some u := fun j u hu => cell_kept (HC.out j u hu) hV.2
              have HCQ := Lib.hid hCq
              clear hCq
              go_wp2
              go_loop [8, 9] (fun v i => ∃ j : Nat, ∃ N : Nat, j ≤ 8 ∧ i = .int .i64 j ∧ v = .int .u64 (N : Int) ∧ N < 256 ^ j ∧ Hid (num8 ((b.drop (k + 1)).take j) = N)) (fun _ i => 8 - (intOf i).toNat)
              case atStart => exact ⟨0, 0, by omega, rfl, rfl, by decide, Lib.hid rfl⟩
              case round =>
                obtain ⟨j, M, hj, rfl, rfl, hN, HI2⟩ := hrel
                by_cases hlt : j < 8
                · obtain ⟨x, hx⟩ : ∃ x, (b.drop (k + 1))[j]? = some x := ⟨_, List.getElem?_eq_getElem (by rw [List.length_drop, ← HN.out]; omega)⟩
                  have e0 := HCQ.out (k + 1 + j) _ (bcs_get b (k + 1 + j) x (by rw [List.getElem?_drop] at hx; exact hx))
                  have hN2 : M < 72057594037927936 := Nat.lt_of_lt_of_le hN (Nat.pow_le_pow_right (n := 256) (by omega) (show j ≤ 7 by omega))
                  have hst := num8_take (b.drop (k + 1)) j x hx
                  rw [HI2.out] at hst
                  have HS2 := Lib.hid hst
                  have hbx := UInt8.toNat_lt x
                  have HP2 : Hid (M * 256 + x.toNat < 256 ^ (j + 1)) := Lib.hid (by rw [Nat.pow_succ]; omega)
                  have HE2 := Lib.hid (add_eq M x hN2)
                  have j0 : (0 : Int) ≤ (j : Int) := by omega
                  have j1 : (j : Int) < 8 := by omega
                  have j2 : (k : Int) + 1 + (j : Int) < (n : Int) := by omega
                  clear hst hx hbx hN hN2
                  go_wp2
                  go_round
                  case rel => exact ⟨j + 1, M * 256 + x.toNat, by omega, by go_num, congrArg _ HE2.out, HP2.out, HS2⟩
                  case measure => simp [intOf]; omega
                · obtain rfl : j = 8 := by omega
                  have hN2 : M < 18446744073709551616 := hN
                  have HE2 := Lib.hid (sub_eq M hN2)
                  have HO2 := HO1.out
                  rw [HI2.out] at HO2
                  have HO := Lib.hid (show oneV (b.drop k) = some ((4, (M : Int) - 9223372036854775808, ⟨#[]⟩), b.drop (k + 9)) by rw [HO2, List.drop_drop])
                  clear HO2 hN hN2
                  generalize hwq : wr.alloc (.cells #[.int .i64 4, .int .i64 0, .string ⟨#[]⟩] 32) = wq at *
                  obtain ⟨d0, d1, d2⟩ := box3 hP
                  have f1 := box_frozen hP 1
                  clear hwq hP
                  go_upto_region 30 with (fail)
                  rw [HE2.out]
                  obtain ⟨Y, hY⟩ : ∃ Y, Y = (M : Int) - 9223372036854775808 := ⟨_, rfl⟩
                  rw [← hY]
                  have HY := Lib.hid hY
                  clear hY
                  replace HO : Hid (oneV (b.drop k) = some ((4, Y, ⟨#[]⟩), b.drop (k + 9))) := Lib.hid (by rw [HO.out, HY.out])
                  have hneP : (Value.slice va N vc).ownBlock ≠ some wr.heap.size := HNP.out
                  have e0 : (wq.setCell ⟨wr.heap.size, 1, none⟩ (.int .i64 Y)).cell? ⟨wr.heap.size, 0, none⟩ = some (.int .i64 4) := by simp [go_sem, d0, d1, f1]
                  have e1 : (wq.setCell ⟨wr.heap.size, 1, none⟩ (.int .i64 Y)).cell? ⟨wr.heap.size, 1, none⟩ = some (.int .i64 Y) := by simp [go_sem, d0, d1, f1]
                  have e2 : (wq.setCell ⟨wr.heap.size, 1, none⟩ (.int .i64 Y)).cell? ⟨wr.heap.size, 2, none⟩ = some (.string ⟨#[]⟩) := by simp [go_sem, d0, d1, d2, f1]
                  replace hV := (hV.setP (P := wr.heap.size) (j := 1) (u := .int .i64 Y) hWP hneP)
                  replace d0 := e0
                  replace d1 := e1
                  replace d2 := e2
                  clear f1 hneP e0 e1 e2
                  generalize (wq.setCell ⟨wr.heap.size, 1, none⟩ (.int .i64 Y)) = ws at *
                  -- behind the switch: the value stands in the box
                  have hst := decA_step acc (b.drop k) _ _ HO.out
                  rw [HI.out] at hst
                  have HST := Lib.hid hst
                  have HVV := fun W => rvalid_any (4, Y, ⟨#[]⟩) W (by show 0 ≤ _; omega)
                  clear hst
                  cases hval : validV (4, Y, ⟨#[]⟩)
                  · rw [hval] at HVV
                    have HE := Lib.hid (show Z = none by rw [HST.out, if_pos (.inl hval)])
                    clear hval
                    go_wp2_with (go_at_call 34; (with_reducible refine (HVV _).mono ?_); rintro e w2 ⟨rfl, hb2⟩; have hL := bstep hV.2 hb2)
                    go_ret2
                    exact DecP.no HE.out hL
                  · rw [hval] at HVV
                    by_cases hacc : N = 1000
                    · have HE := Lib.hid (show Z = none by rw [HST.out, if_pos (.inr (by rw [← HNA.out]; exact hacc))])
                      clear hval
                      subst hacc
                      go_wp2_with (go_at_call 34; (with_reducible refine (HVV _).mono ?_); rintro e w2 ⟨rfl, hb2⟩; have hL := bstep hV.2 hb2)
                      go_ret2
                      exact DecP.no HE.out hL
                    · have HE := Lib.hid (show Z = decA (b.drop (k + 9)).length (acc ++ [(4, Y, ⟨#[]⟩)]) (b.drop (k + 9)) by rw [HST.out, if_neg (by rw [← HNA.out]; simp [hval, hacc])])
                      have hacc2 : ((N : Int) == 1000) = false := by rw [beq_eq_false_iff_ne]; omega
                      have hacc3 : ¬ (N : Int) = 1000 := by omega
                      clear hval
                      go_wp2_with (first | (go_at_call 34; (with_reducible refine (HVV _).mono ?_); rintro e w2 ⟨rfl, hb2⟩; have hV2 := hV.below hb2; replace d0 := cell_kept d0 hb2; replace d1 := cell_kept d1 hb2; replace d2 := cell_kept d2 hb2) | (at_builtin; refine wp_val hV2 rfl (.tmp 105) (.tmp 107) rfl rfl 32 rfl (by simp) (4, Y, ⟨#[]⟩) (by rw [← HNA.out]; omega) ?_; intro v3 w3 hV3))
                      go_roundw
                      case rel => exact ⟨k + 9, acc ++ [(4, Y, ⟨#[]⟩)], by omega, by go_num, Lib.hid HE.out.symm, by rw [List.length_append, ← HNA.out]; simp; omega, hV3⟩
                      case measure => simp [intOf]; omega
          · have HE := Lib.hid (show Z = none by rw [← HI.out, HD.out]; exact dec_kind c _ acc c14 c2 c3 c14')
            have q1 : ((c.toNat : Int) == 1) = false := by rw [beq_eq_false_iff_ne]; omega
            have q2 : ((c.toNat : Int) == 2) = false := by rw [beq_eq_false_iff_ne]; omega
            have q3 : ((c.toNat : Int) == 3) = false := by rw [beq_eq_false_iff_ne]; omega
            have q4 : ((c.toNat : Int) == 4) = false := by rw [beq_eq_false_iff_ne]; omega
            have p1 : ¬ (c.toNat : Int) = 1 := by omega
            have p2 : ¬ (c.toNat : Int) = 2 := by omega
            have p3 : ¬ (c.toNat : Int) = 3 := by omega
            have p4 : ¬ (c.toNat : Int) = 4 := by omega
            clear c2 c3 c14 c14'
            go_wp2
            go_ret2
            exact DecP.no HE.out hV.2
    · have e : b.drop k = [] := List.drop_of_length_le (by rw [← HN.out]; omega)
      have HE := Lib.hid (show Z = some acc by rw [← HI.out, e, decA_nil])
      clear e
      go_wp2
      go_ret2
      exact DecP.yes HE.out hV
end Go.Proofs.YtgfppajbegcaeaaDoor.Va
