/-
  The walk of ValueBytes (with bytes.Compare).
-/
import Derived.Test.YtgfppajbegcaeaaDoorVaZ
import Derived.Test.YtgfppajbegcaeaaDoorVaY
import Derived.Test.YtgfppajbegcaeaaDoorVop
import Derived.Lib.BytesEntry
import Derived.Laws.Externs
set_option linter.unusedSimpArgs false
set_option linter.unusedVariables false
namespace Go.Proofs.YtgfppajbegcaeaaDoor.Va
open Go.RowKit Go.ChangeShapes Go.WideShapes Go.Proofs.YtgfppajbegcaeaaDoor.Sl

theorem cmpB_bytes : ∀ (a b : List UInt8), Lib.compareBytes a b = cmpL a b
  | [], [] => rfl
  | [], _ :: _ => rfl
  | _ :: _, [] => rfl
  | x :: a, y :: b => by
    rw [Lib.compareBytes, cmpL_cons, cmpB_bytes a b]
    unfold cmpB cmpI
    have e : ∀ p q : UInt8, p < q ↔ (p.toNat : Int) < (q.toNat : Int) := fun p q => by rw [UInt8.lt_iff_toNat_lt]; omega
    by_cases h1 : x < y
    · have h2 := (e x y).1 h1
      rw [if_pos h1, if_pos h2]; rfl
    · have h2 : ¬ (x.toNat : Int) < (y.toNat : Int) := fun h => h1 ((e x y).2 h)
      rw [if_neg h1, if_neg h2]
      by_cases h3 : y < x
      · have h4 := (e y x).1 h3
        rw [if_pos h3, if_pos h4]; rfl
      · have h4 : ¬ (y.toNat : Int) < (x.toNat : Int) := fun h => h3 ((e y x).2 h)
        rw [if_neg h3, if_neg h4]; rfl
theorem bOf (b : List UInt8) (s : Value) (w : World) (h : Bs w s b) : (Extern.Bytes.bytesOf s).run Tryd.prog w = .ok ⟨b.toArray⟩ w := by
  by_cases h0 : b.length = 0
  · obtain ⟨ad, cap, rfl⟩ := h.1.form
    obtain rfl : b = [] := List.length_eq_zero_iff.1 h0
    cases ad with
    | none => rfl
    | some a => simp [Extern.Bytes.bytesOf, Extern.Bytes.loadBytes]; rfl
  · obtain ⟨g, off, cap, rfl, hc⟩ := h.1.open h0
    have h1 := Lib.run_loadBytesX (P := Tryd.prog) w (b.map fun c => (c.toNat : Int)) ⟨g, off, none⟩ .empty (fun j x hx => by
      rw [Go.WideShapes.add_plain]
      refine hc j _ ?_
      rw [List.getElem?_map] at hx ⊢
      obtain ⟨c, h1, rfl⟩ := Option.map_eq_some_iff.1 hx
      rw [h1]; rfl)
    rw [List.length_map] at h1
    show (Extern.Bytes.loadBytes ⟨g, off, none⟩ b.length .empty).run Tryd.prog w = _
    rw [h1]
    congr 1
    apply ByteArray.ext
    have e : ∀ l : List UInt8, Lib.bytesOf (l.map fun c => (c.toNat : Int)) = l := fun l => by
      induction l with
      | nil => rfl
      | cons c l ih => 
        show UInt8.ofNat ((c.toNat : Int)).toNat :: Lib.bytesOf (l.map fun c => (c.toNat : Int)) = c :: l
        rw [ih]; simp
    rw [e]
    simp
theorem run_bcmp (b1 b2 : List UInt8) (s1 s2 : Value) (w : World) (h1 : Bs w s1 b1) (h2 : Bs w s2 b2) : (Extern.BytealgCompare.compare #[s1, s2]).run Tryd.prog w = .ok (.int .i64 (cmpL b1 b2)) w := by
  change Sem.run Tryd.prog (do pure (goInt (Extern.BytealgCompare.cmp (← Extern.Bytes.bytesOf s1) (← Extern.Bytes.bytesOf s2)))) w = _
  simp only [Sem.run_bind, bOf b1 s1 w h1, bOf b2 s2 w h2, Sem.run_pure, Result.andThen]
  rw [Lib.cmp_eq, cmpB_bytes]
  rfl
set_option maxRecDepth 20000 in
theorem bcompare_any (b1 b2 : List UInt8) (s1 s2 : Value) (w : World) (h1 : Bs w s1 b1) (h2 : Bs w s2 b2) : Calls Tryd.prog 33 #[s1, s2] w fun e w' => e = .returned (.int .i64 (cmpL b1 b2)) ∧ w' = w := by
  have hr := run_bcmp b1 b2 s1 s2 w h1 h2
  generalize cmpL b1 b2 = z at hr ⊢
  go_enter Tryd.func33, Tryd.ntmps33
  go_wp2
  rw [run_callFunc_extern Tryd.func55 (by kernel_rfl) (by kernel_rfl) (by kernel_rfl) (e := Extern.BytealgCompare.compare) (by kernel_rfl), hr]
  simp only [Result.andThen]
  rw [Oper.upon_value]
  go_wp2
  go_ret
  exact ⟨rfl, rfl⟩
theorem encode_fits (l : List V3) (hg : ∀ u ∈ l, GoodV u) : ∀ v ∈ l, FitV v := fun v hv => (hg v hv).1
set_option maxRecDepth 20000 in
theorem vb_long (a1 a2 : Option Addr) (n k c1 c2 : Nat) (m : Int) (w : World) (hm : w.cell? ⟨0, 0, none⟩ = some (.int .i64 m)) (h : (50 : Int) < (n : Int)) :
    Calls Tryd.prog 8 #[.slice a1 n c1, .slice a2 k c2] w fun e w' => e = .returned (.bool true) ∧ Below w.heap.size w w' := by
  have HW := fun (W : World) (h : Below w.heap.size w W) => awake_any m W (Go.Proofs.YtgfppajbegcaeaaDoor.Sl.cell_kept hm h)
  go_enter Tryd.func8, Tryd.ntmps8
  go_wp2_with (go_at_call 10; (first | (with_reducible refine (HW _ hL).mono ?_; rintro e w2 ⟨rfl, hb⟩; replace hL := bstep hL hb; clear hb) | (with_reducible refine (HW _ (Below.refl _ _)).mono ?_; rintro e w1 ⟨rfl, hL⟩)))
  go_ret
  exact ⟨rfl, hL⟩
set_option maxRecDepth 20000 in
theorem vb_long2 (a1 a2 : Option Addr) (n k c1 c2 : Nat) (m : Int) (w : World) (hm : w.cell? ⟨0, 0, none⟩ = some (.int .i64 m)) (h1 : (n : Int) ≤ 50) (h : (50 : Int) < (k : Int)) :
    Calls Tryd.prog 8 #[.slice a1 n c1, .slice a2 k c2] w fun e w' => e = .returned (.bool true) ∧ Below w.heap.size w w' := by
  have HW := fun (W : World) (h : Below w.heap.size w W) => awake_any m W (Go.Proofs.YtgfppajbegcaeaaDoor.Sl.cell_kept hm h)
  go_enter Tryd.func8, Tryd.ntmps8
  go_wp2_with (go_at_call 10; (first | (with_reducible refine (HW _ hL).mono ?_; rintro e w2 ⟨rfl, hb⟩; replace hL := bstep hL hb; clear hb) | (with_reducible refine (HW _ (Below.refl _ _)).mono ?_; rintro e w1 ⟨rfl, hL⟩)))
  go_ret
  exact ⟨rfl, hL⟩
set_option maxRecDepth 20000 in
set_option maxHeartbeats 1000000 in
theorem vb_go (l b : List V3) (a1 a2 : Option Addr) (n k c1 c2 : Nat) (m : Int) (w : World) (hm : w.cell? ⟨0, 0, none⟩ = some (.int .i64 m)) (hn : n = l.length) (hk : k = b.length) (h1 : (n : Int) ≤ 50) (h2 : (k : Int) ≤ 50)
    (hs : Vs w (.slice a1 n c1) l) (hbs : Vs w (.slice a2 k c2) b) (hg : ∀ u ∈ l, GoodV u) (hg2 : ∀ u ∈ b, GoodV u) :
    Calls Tryd.prog 8 #[.slice a1 n c1, .slice a2 k c2] w fun e w' => e = .returned (.bool true) ∧ Below w.heap.size w w' := by
  have HW := fun (W : World) (h : Below w.heap.size w W) => awake_any m W (Go.Proofs.YtgfppajbegcaeaaDoor.Sl.cell_kept hm h)
  have HO := fun (W : World) (h : Below w.heap.size w W) => order_lists l b _ _ W (by omega) (by omega) (hs.below h) (hbs.below h)
  have HS := Lib.hid (fun (W : World) (h : Below w.heap.size w W) => hs.below h)
  have HS2 := Lib.hid (fun (W : World) (h : Below w.heap.size w W) => hbs.below h)
  have HN := Lib.hid (show l.length ≤ 50 ∧ b.length ≤ 50 by omega)
  clear hs hbs hm hn hk
  have f1 := encode_fits l hg
  have f2 := encode_fits b hg2
  cases hv : allV l
  · have HE := fun (W : World) (h : Below w.heap.size w W) => encode_bad l _ W (by have := HN.out; omega) hv (HS.out W h)
    cases hv2 : allV b
    · have HE2 := fun (W : World) (h : Below w.heap.size w W) => encode_bad b _ W (by have := HN.out; omega) hv2 (HS2.out W h)
      clear f1 f2 hv hv2
      go_enter Tryd.func8, Tryd.ntmps8
      go_upto_region 3 with (go_at_call 10; (with_reducible refine (HW _ (Below.refl _ _)).mono ?_); rintro e w1 ⟨rfl, hL⟩)
      go_upto_region 4 with (go_at_call 14; (with_reducible refine (HE _ hL).mono ?_); rintro e w2 ⟨rfl, hb⟩; replace hL := bstep hL hb; clear hb)
      go_wp2_with (go_at_call 14; (with_reducible refine (HE2 _ hL).mono ?_); rintro e w3 ⟨rfl, hb⟩; replace hL := bstep hL hb; clear hb)
      go_ret
      exact ⟨rfl, hL⟩
    · have HE2 := fun (W : World) (h : Below w.heap.size w W) => encode_any b _ W (by have := HN.out; omega) f2 hv2 (HS2.out W h)
      clear f1 f2 hv hv2
      go_enter Tryd.func8, Tryd.ntmps8
      go_upto_region 3 with (go_at_call 10; (with_reducible refine (HW _ (Below.refl _ _)).mono ?_); rintro e w1 ⟨rfl, hL⟩)
      go_upto_region 4 with (go_at_call 14; (with_reducible refine (HE _ hL).mono ?_); rintro e w2 ⟨rfl, hb⟩; replace hL := bstep hL hb; clear hb)
      go_wp2_with (go_at_call 14; (with_reducible refine (HE2 _ hL).mono ?_); rintro e w3 ⟨v2, rfl, hB⟩; replace hL := bstep hL hB.2; clear hB)
      go_ret
      exact ⟨rfl, hL⟩
  · have HE := fun (W : World) (h : Below w.heap.size w W) => encode_any l _ W (by have := HN.out; omega) f1 hv (HS.out W h)
    cases hv2 : allV b
    · have HE2 := fun (W : World) (h : Below w.heap.size w W) => encode_bad b _ W (by have := HN.out; omega) hv2 (HS2.out W h)
      clear f1 f2 hv hv2
      go_enter Tryd.func8, Tryd.ntmps8
      go_upto_region 3 with (go_at_call 10; (with_reducible refine (HW _ (Below.refl _ _)).mono ?_); rintro e w1 ⟨rfl, hL⟩)
      go_upto_region 4 with (go_at_call 14; (with_reducible refine (HE _ hL).mono ?_); rintro e w2 ⟨v1, rfl, hB⟩; replace hL := bstep hL hB.2; clear hB)
      go_wp2_with (go_at_call 14; (with_reducible refine (HE2 _ hL).mono ?_); rintro e w3 ⟨rfl, hb⟩; replace hL := bstep hL hb; clear hb)
      go_ret
      exact ⟨rfl, hL⟩
    · have HE2 := fun (W : World) (h : Below w.heap.size w W) => encode_any b _ W (by have := HN.out; omega) f2 hv2 (HS2.out W h)
      have ho : cmpLs l b = cmpL (encL l) (encL b) := by
        unfold cmpLs
        rw [hv, hv2, ord_enc l b hv hv2 f1 f2]; rfl
      rw [ho] at HO
      clear f1 f2 hv hv2 ho
      have HC := fun (W : World) (x y : Value) (h1 : Bs W x (encL l)) (h2 : Bs W y (encL b)) => bcompare_any (encL l) (encL b) x y W h1 h2
      generalize cmpL (encL l) (encL b) = z at HO HC
      go_enter Tryd.func8, Tryd.ntmps8
      go_upto_region 3 with (go_at_call 10; (with_reducible refine (HW _ (Below.refl _ _)).mono ?_); rintro e w1 ⟨rfl, hL⟩)
      go_upto_region 4 with (go_at_call 14; (with_reducible refine (HE _ hL).mono ?_); rintro e w2 ⟨v1, rfl, hB⟩; have hv1 := hB.bs; replace hL := bstep hL hB.2; clear hB)
      go_upto_region 5 with (go_at_call 14; (with_reducible refine (HE2 _ hL).mono ?_); rintro e w3 ⟨v2, rfl, hB⟩; have hv2 := hB.bs; replace hv1 := hv1.below hB.2; replace hL := bstep hL hB.2; clear hB)
      go_wp2_with (first | (go_at_call 33; (with_reducible refine (HC _ _ _ hv1 hv2).mono ?_); rintro e w4 ⟨rfl, rfl⟩) | (go_at_call 22; (with_reducible refine (HO _ hL).mono ?_); rintro e w5 ⟨rfl, hb⟩; replace hL := bstep hL hb; clear hb))
      go_ret
      exact ⟨by simp, hL⟩
theorem valueBytes_walk (va : Value) (a : List V3) (vb : Value) (b : List V3) (m : Int) (w : World) (hm : w.cell? ⟨0, 0, none⟩ = some (.int .i64 m)) (hs : Vs w va a) (hl : a.length ≤ 9223372036854775807) (hg : ∀ u ∈ a, GoodV u) (hs2 : Vs w vb b) (hl2 : b.length ≤ 9223372036854775807) (hg2 : ∀ u ∈ b, GoodV u) :
    Calls Tryd.prog 8 #[va, vb] w fun e w' => e = .returned (.bool true) ∧ Below w.heap.size w w' := by
  obtain ⟨a1, c1, rfl⟩ := hs.form
  obtain ⟨a2, c2, rfl⟩ := hs2.form
  by_cases h1 : 50 < a.length
  · exact vb_long a1 a2 _ _ c1 c2 m w hm (by omega)
  by_cases h2 : 50 < b.length
  · exact vb_long2 a1 a2 _ _ c1 c2 m w hm (by omega) (by omega)
  exact vb_go a b a1 a2 _ _ c1 c2 m w hm rfl rfl (by omega) (by omega) hs hs2 hg hg2
end Go.Proofs.YtgfppajbegcaeaaDoor.Va
