/-
  The walk of the law's texts (layer 18): the words without their places.
-/
import Derived.Test.YtcpfbemmlmdcaaaDoorLxJp
import Derived.Test.YtcpfbemmlmdcaaaDoorLxSm
import Derived.Test.YtcpfbemmlmdcaaaDoorLxPp
set_option linter.unusedSimpArgs false
set_option linter.unusedVariables false
namespace Go.Proofs.YtcpfbemmlmdcaaaDoor.Lx
open Go.RowKit Go.ChangeShapes Go.WideShapes Go.Proofs.YtcpfbemmlmdcaaaDoor.Sl

/-- What holds of the gathered texts. -/
def OutS (W w : World) (v : Value) (acc : List (List ByteArray)) : Prop :=
  ∃ hs : List Value, w.ownsRow W.heap.size 46 1 v acc.length hs ∧ ∀ (j : Nat) (h : Value) (l : List ByteArray), hs[j]? = some h → acc[j]? = some l → w.ownsRow W.heap.size 9 1 h l.length (l.map Value.string) ∧ (h.ownBlock = none ∨ h.ownBlock ≠ v.ownBlock)
theorem OutS.below {W w w' : World} {v : Value} {acc : List (List ByteArray)} (h : OutS W w v acc) (hb : Below w.heap.size w w') : OutS W w' v acc := by
  obtain ⟨hs, h1, h2⟩ := h
  exact ⟨hs, own_below h1 hb, fun j x l hx hl => ⟨own_below (h2 j x l hx hl).1 hb, (h2 j x l hx hl).2⟩⟩
theorem OutS.nil (W w : World) : OutS W w (.slice none 0 0) [] := ⟨[], World.ownsRow_nil _ _ _ _, fun j h l hj => by simp at hj⟩
/-- The texts can be read. -/
def Ts (w : World) (v : Value) (T : List (List ByteArray)) : Prop :=
  ∃ hs : List Value, Sl w v T.length 1 hs ∧ ∀ (j : Nat) (h : Value) (l : List ByteArray), hs[j]? = some h → T[j]? = some l → Sl w h l.length 1 (l.map Value.string)
theorem Ts.below {w w' : World} {v : Value} {T : List (List ByteArray)} (h : Ts w v T) (hb : Below w.heap.size w w') : Ts w' v T := by
  obtain ⟨hs, h1, h2⟩ := h
  exact ⟨hs, h1.below hb, fun j x l hx hl => (h2 j x l hx hl).below hb⟩
theorem OutS.ts {W w : World} {v : Value} {acc : List (List ByteArray)} (h : OutS W w v acc) : Ts w v acc := by
  obtain ⟨hs, h1, h2⟩ := h
  exact ⟨hs, Sl.of_owns h1, fun j x l hx hl => Sl.of_owns (h2 j x l hx hl).1⟩
/-- One line more. -/
theorem OutS.app {W w w' : World} {v u : Value} {acc : List (List ByteArray)} {l : List ByteArray} {hs : List Value} {g cap : Nat}
    (h2 : ∀ (j : Nat) (h : Value) (l : List ByteArray), hs[j]? = some h → acc[j]? = some l → w.ownsRow W.heap.size 9 1 h l.length (l.map Value.string) ∧ (h.ownBlock = none ∨ h.ownBlock ≠ v.ownBlock))
    (hl : hs.length = acc.length) (hu : w.ownsRow W.heap.size 9 1 u l.length (l.map Value.string)) (hne : u.ownBlock = none ∨ u.ownBlock ≠ v.ownBlock)
    (hown : w'.ownsRow W.heap.size 46 1 (.slice (some ⟨g, 0, none⟩) (acc.length + 1) cap) (acc.length + 1) (hs ++ [u])) (hg : w.grownBy w' v.ownBlock) (hG : v.ownBlock = some g ∨ w.heap.size ≤ g) :
    OutS W w' (.slice (some ⟨g, 0, none⟩) (acc.length + 1) cap) (acc ++ [l]) := by
  have key : ∀ (x : Value) (q : List ByteArray), w.ownsRow W.heap.size 9 1 x q.length (q.map Value.string) → (x.ownBlock = none ∨ x.ownBlock ≠ v.ownBlock) →
      w'.ownsRow W.heap.size 9 1 x q.length (q.map Value.string) ∧ (x.ownBlock = none ∨ x.ownBlock ≠ some g) := by
    intro x q hx hq
    refine ⟨hx.kept hg hq, ?_⟩
    rcases hq with hq | hq
    · exact .inl hq
    · rcases hG with hG | hG
      · exact .inr (by rw [← hG]; exact hq)
      · right
        intro e
        have := (hx.lt g e).2
        omega
  refine ⟨hs ++ [u], by simpa using hown, fun j x q hx hq => ?_⟩
  by_cases hj : j < acc.length
  · rw [List.getElem?_append_left (by omega)] at hx
    rw [List.getElem?_append_left hj] at hq
    have := h2 j x q hx hq
    exact key x q this.1 this.2
  · have hj2 : j = acc.length := by
      have := (List.getElem?_eq_some_iff.1 hq).1
      simp at this; omega
    subst hj2
    rw [List.getElem?_append_right (by omega)] at hx hq
    simp [hl] at hx hq
    subst hx; subst hq
    exact key _ _ hu hne

theorem info_strs : (Tryd.prog.info? 9).map (fun i => (i.zero, i.size, i.bytes)) = some (some (.string ⟨#[]⟩), 1, 16) := by kernel_rfl
theorem info_strss : (Tryd.prog.info? 46).map (fun i => (i.zero, i.size, i.bytes)) = some (some (.slice none 0 0), 1, 24) := by kernel_rfl
theorem txs_get (L : List (List Tok)) (k : Nat) (ws : List Tok) (h : L[k]? = some ws) : (txs L).take (k + 1) = (txs L).take k ++ [tx ws] := by
  rw [List.take_add_one]
  congr 1
  unfold txs
  rw [List.getElem?_map, h]; rfl
theorem tx_get (ws : List Tok) (k : Nat) (t : Tok) (h : ws[k]? = some t) : (tx ws).take (k + 1) = (tx ws).take k ++ [t.1] := by
  rw [List.take_add_one]
  congr 1
  unfold tx
  rw [List.getElem?_map, h]; rfl

set_option maxRecDepth 20000 in
set_option maxHeartbeats 2000000 in
theorem texts_any (L : List (List Tok)) (v : Value) (w : World) (hS : Short L) (hN : ∀ l ∈ L, l ≠ []) (ha : Ls w v L) :
    Calls Tryd.prog 36 #[v] w fun e w' => ∃ u, e = .returned u ∧ OutS w w' u (txs L) ∧ Below w.heap.size w w' := by
  obtain ⟨hs0, sa, ea⟩ := ha
  by_cases h0 : L.length = 0
  · obtain ⟨ad, cap, hv⟩ := sa.form
    have hv' : v = .slice ad 0 cap := by rw [hv, h0]
    subst hv'
    have hL : L = [] := List.length_eq_zero_iff.1 h0
    clear sa ea hv
    go_enter Tryd.func36, Tryd.ntmps36
    go_wp2
    refine wp_loop_rounds 1 ?_
    rw [rounds_succ]
    go_wp2
    go_ret
    rw [hL]
    exact ⟨_, rfl, OutS.nil _ _, Below.refl _ _⟩
  · have hla : hs0.length = L.length := by have := sa.1; omega
    obtain ⟨g, off, cap, hv, hc⟩ := sa.open h0
    subst hv
    obtain ⟨N, hn⟩ : ∃ N, N = L.length := ⟨_, rfl⟩
    have HN := Lib.hid hn
    have hNl : N ≤ 70000 := by rw [hn]; exact hS.1
    rw [← hn] at h0 ⊢
    have HC := Lib.hid hc
    have EA := Lib.hid ea
    have HLA := Lib.hid hla
    have HSS := Lib.hid hS.2
    have HNE := Lib.hid hN
    clear hc sa ea hn hla hS hN
    go_enter Tryd.func36, Tryd.ntmps36
    go_wp2
    go_loopw [3, 11] (fun o i wr => ∃ k : Nat, k ≤ N ∧ i = .int .i64 k ∧ OutS w wr o ((txs L).take k) ∧ Below w.heap.size w wr) (fun _ i _ => N - (intOf i).toNat)
    case atStart => exact ⟨0, Nat.zero_le _, rfl, by rw [List.take_zero]; exact OutS.nil _ _, Below.refl _ _⟩
    case round =>
      obtain ⟨k, hk, rfl, hO, hB⟩ := hrel
      have HO := Lib.hid hO
      clear hO
      by_cases hlt : k < N
      · obtain ⟨ws, hws⟩ : ∃ ws, L[k]? = some ws := ⟨_, List.getElem?_eq_getElem (by rw [← HN.out]; exact hlt)⟩
        obtain ⟨x, hx⟩ : ∃ x, hs0[k]? = some x := ⟨_, List.getElem?_eq_getElem (by rw [HLA.out, ← HN.out]; exact hlt)⟩
        have a0 := cell_kept (HC.out _ _ hx) hB
        have hsl := (EA.out k x ws hx hws).below hB
        have hwl := HSS.out ws (List.mem_of_getElem? hws)
        have hwn : ws.length ≠ 0 := fun e => HNE.out ws (List.mem_of_getElem? hws) (List.length_eq_zero_iff.1 e)
        obtain ⟨g2, off2, cap2, rfl, hc2⟩ := hsl.open hwn
        obtain ⟨K, hK⟩ : ∃ K, K = ws.length := ⟨_, rfl⟩
        have HK := Lib.hid hK
        rw [← hK] at hwl hwn a0
        have HC2 := Lib.hid hc2
        have HWS := Lib.hid (txs_get L k ws hws)
        have hlk : ((txs L).take k).length = k := by unfold txs; rw [List.length_take, List.length_map, ← HN.out]; omega
        have HLK := Lib.hid hlk
        have k0 : (0 : Int) ≤ (k : Int) := by omega
        have k1 : (k : Int) < (N : Int) := by omega
        have hBs := hB.size
        clear hws hx hK hc2 hsl hlk
        obtain ⟨wi, rfl⟩ : ∃ wi : World, wi = wr := ⟨_, rfl⟩
        go_wp2
        go_loopw [6, 17] (fun t i wx => ∃ q : Nat, q ≤ K ∧ i = .int .i64 q ∧ wx.ownsRow wi.heap.size 9 1 t q (((tx ws).take q).map Value.string) ∧ Below wi.heap.size wi wx) (fun _ i _ => K - (intOf i).toNat)
        case atStart => exact ⟨0, Nat.zero_le _, rfl, World.ownsRow_nil _ _ _ _, Below.refl _ _⟩
        case round =>
          obtain ⟨q, hq, rfl, hown, hI⟩ := hrel
          have HOW := Lib.hid hown
          have hIs := hI.size
          clear hown
          by_cases hql : q < K
          · obtain ⟨t, ht⟩ : ∃ t, ws[q]? = some t := ⟨_, List.getElem?_eq_getElem (by rw [← HK.out]; exact hql)⟩
            obtain ⟨e0, e1, e2⟩ := cellsT_get ws q t ht
            have b0 := cell_kept (HC2.out _ _ e0) hI
            have b1 := cell_kept (HC2.out _ _ e1) hI
            have b2 := cell_kept (HC2.out _ _ e2) hI
            rw [← Nat.add_assoc] at b1 b2
            have HT := Lib.hid (tx_get ws q t ht)
            have q0 : (0 : Int) ≤ (q : Int) := by omega
            have q1 : (q : Int) < (K : Int) := by omega
            clear ht e0 e1 e2
            obtain ⟨ii, hi, hz0, hz1, hz2⟩ := info_parts info_strs
            go_upto_region 10 with (at_builtin; go_must (refine wpList_app2 (W0 := wi) (hI.alloc hIs _) rfl (.tmp 21) (.tmp 24) 46 rfl 9 Tryd.underlying46 hi hz0 hz1 hz2 rfl (by decide) u6 q (((tx ws).take q).map Value.string) rfl [.string t.1] 9 (HOW.out.alloc _) rfl (by simp) rfl (by intro u hu; simp at hu; subst hu; rfl) (by unfold maxLen; omega) (by omega) ?_); intro g0 cap0 w2 hown2 hLq hgr hG)
            go_wp2
            go_roundw
            case rel => exact ⟨q + 1, by omega, by go_num, by rw [HT.out, List.map_append]; exact hown2, hLq⟩
            case measure => simp [intOf]; omega
          · have hqK : q = K := by omega
            subst hqK
            obtain ⟨hs1, o1, o2⟩ := HO.out.below hI
            obtain ⟨hs2, o3, _⟩ := HO.out
            have hu : wr.ownsRow w.heap.size 9 1 u6 (tx ws).length ((tx ws).map Value.string) := by
              have := own_base HOW.out hBs
              have e : (tx ws).length = q := by unfold tx; rw [List.length_map, HK.out]
              rw [List.take_of_length_le (by omega)] at this
              rw [e]; exact this
            obtain ⟨g0, cap0, hu6, hg1, hg2⟩ := HOW.out.form (by omega)
            have hu6' : u6 = .slice (some ⟨g0, 0, none⟩) q cap0 := hu6
            clear hu6
            subst hu6'
            have hne : (Value.slice (some ⟨g0, 0, none⟩) q cap0).ownBlock = none ∨ (Value.slice (some ⟨g0, 0, none⟩) q cap0).ownBlock ≠ u3.ownBlock := by
              right
              intro e
              have := (o3.lt g0 e.symm).2
              omega
            have O1 := Lib.hid (show wr.ownsRow w.heap.size 46 1 u3 k hs1 by have := o1; rw [HLK.out] at this; exact this)
            have O2 := Lib.hid o2
            have hl1 : hs1.length = ((txs L).take k).length := by have := o1.1; omega
            have HL1 := Lib.hid hl1
            have HU := Lib.hid hu
            have HNE2 := Lib.hid hne
            have HX := Lib.hid (hB.trans (hI.mono hBs))
            clear o1 o2 o3 hu hne hl1 HOW
            obtain ⟨ii, hi, hz0, hz1, hz2⟩ := info_parts info_strss
            go_upto_region 12 with (at_builtin; go_must (refine wpList_app2 (W0 := w) HX.out rfl (.tmp 27) (.tmp 29) 53 rfl 46 Tryd.underlying53 hi hz0 hz1 hz2 rfl (by decide) u3 k hs1 rfl [.slice (some ⟨g0, 0, none⟩) q cap0] 46 O1.out rfl (by simp) rfl (by intro u hu; simp at hu; subst hu; rfl) (by unfold maxLen; omega) (by omega) ?_); intro g1 cap1 w2 hown2 hLq hgr hG)
            have hO2 := OutS.app O2.out HL1.out HU.out HNE2.out (by rw [HLK.out]; exact hown2) hgr hG
            rw [HLK.out, ← HWS.out] at hO2
            go_wp2
            go_roundw
            case rel => exact ⟨k + 1, by omega, by go_num, hO2, hLq⟩
            case measure => simp [intOf]; omega
      · have hkN : k = N := by omega
        go_wp2
        go_ret
        refine ⟨_, rfl, ?_, hB⟩
        have := HO.out
        rw [List.take_of_length_le (by unfold txs; rw [List.length_map, ← HN.out]; omega)] at this
        exact this
end Go.Proofs.YtcpfbemmlmdcaaaDoor.Lx
