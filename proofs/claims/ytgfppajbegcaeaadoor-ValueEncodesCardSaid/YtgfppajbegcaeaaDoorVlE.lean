/-
  The walk of ValueEncodes.
-/
import Derived.Test.YtgfppajbegcaeaaDoorVaZ
import Derived.Test.YtgfppajbegcaeaaDoorVaN
import Derived.Test.YtgfppajbegcaeaaDoorVaQ
import Derived.Test.YtgfppajbegcaeaaDoorVop
set_option linter.unusedSimpArgs false
set_option linter.unusedVariables false
namespace Go.Proofs.YtgfppajbegcaeaaDoor.Va
open Go.RowKit Go.ChangeShapes Go.WideShapes Go.Proofs.YtgfppajbegcaeaaDoor.Sl Go.Lib

theorem decA_len : ∀ (f : Nat) (acc : List V3) (b : List UInt8) (l : List V3), acc.length ≤ 1000 → decA f acc b = some l → l.length ≤ 1000
  | f, acc, [], l, h, e => by
    have e2 : decA f acc [] = some acc := decA_nil f acc
    rw [e2] at e
    cases e
    exact h
  | 0, acc, _ :: _, l, h, e => by simp [decA] at e
  | f + 1, acc, c :: b, l, h, e => by
    rw [decA] at e
    split at e
    · cases e
    · rename_i v r _
      by_cases h2 : validV v = false ∨ acc.length = 1000
      · rw [if_pos h2] at e; cases e
      · rw [if_neg h2] at e
        exact decA_len f _ _ l (by simp; omega) e
def decR (b : List UInt8) : List V3 := (decA b.length [] b).getD []
def decK (b : List UInt8) : Int := if (decA b.length [] b).isSome then 0 else 16
theorem decR_len (b : List UInt8) : (decR b).length ≤ 1000 := by
  unfold decR
  cases h : decA b.length [] b with
  | none => simp
  | some l => exact decA_len _ _ _ l (by simp) h
theorem DecP.uni {w w' : World} {b : List UInt8} {e : Ending} (h : DecP w (decA b.length [] b) e w') : ∃ v, e = .returned (.tuple #[v, .int .i64 (decK b)]) ∧ Vs w' v (decR b) ∧ Below w.heap.size w w' := by
  obtain ⟨h1, h2⟩ := h
  unfold decK decR
  cases hd : decA b.length [] b with
  | none =>
    rw [hd] at h2
    exact ⟨.slice none 0 0, h2, Sl.mk0 _ _ _ _, h1⟩
  | some l =>
    rw [hd] at h2
    obtain ⟨v, h3, h4⟩ := h2
    exact ⟨v, h3, h4, h1⟩
theorem decode_u (b : List UInt8) (s : Value) (w : World) (hl : b.length ≤ 900000) (hs : Bs w s b) : Calls Tryd.prog 11 #[s] w fun e w' => ∃ v, e = .returned (.tuple #[v, .int .i64 (decK b)]) ∧ Vs w' v (decR b) ∧ Below w.heap.size w w' :=
  (decode_any b s w hl hs).mono fun e w' h => h.uni
theorem rdecode_u (b : List UInt8) (s : Value) (w : World) (hl : b.length ≤ 900000) (hs : Bs w s b) : Calls Tryd.prog 12 #[s] w fun e w' => ∃ v, e = .returned (.tuple #[v, .int .i64 (decK b)]) ∧ Vs w' v (decR b) ∧ Below w.heap.size w w' :=
  (rdecode_any b s w hl hs).mono fun e w' h => h.uni
theorem bs_sl {w : World} {v : Value} {b : List UInt8} (h : Bs w v b) : Sl w v b.length 1 (bcs b) := h.1
theorem equal_self (l : List V3) (a b : Value) (w : World) (hl : l.length ≤ 2000000) (ha : Vs w a l) (hb : Vs w b l) : Calls Tryd.prog 13 #[a, b] w fun e w' => e = .returned (.bool true) ∧ Below w.heap.size w w' := by
  have h := equal_any l l a b w hl hl ha hb
  rw [decide_eq_true rfl] at h
  exact h
theorem bequal_self (l : List UInt8) (a b : Value) (w : World) (hl : l.length ≤ 1000000) (ha : Sl w a l.length 1 (bcs l)) (hb : Sl w b l.length 1 (bcs l)) : Calls Tryd.prog 16 #[a, b] w fun e w' => e = .returned (.bool true) ∧ Below w.heap.size w w' := by
  have h := bequal_any l l a b w hl hl ha hb
  rw [decide_eq_true rfl] at h
  exact h
theorem allV_val {l : List V3} (h : allV l = true) : ∀ v ∈ l, validV v = true := fun v hv => List.all_eq_true.1 h v hv

set_option maxRecDepth 20000 in
theorem enc_long (a1 a2 : Option Addr) (n k c1 c2 : Nat) (m : Int) (w : World) (hm : w.cell? ⟨0, 0, none⟩ = some (.int .i64 m)) (h : (50 : Int) < (n : Int)) :
    Calls Tryd.prog 3 #[.slice a1 n c1, .slice a2 k c2] w fun e w' => e = .returned (.bool true) ∧ Below w.heap.size w w' := by
  have HW := fun (W : World) (h : Below w.heap.size w W) => awake_any m W (Go.Proofs.YtgfppajbegcaeaaDoor.Sl.cell_kept hm h)
  go_enter Tryd.func3, Tryd.ntmps3
  go_wp2_with (go_at_call 10; (first | (with_reducible refine (HW _ hL).mono ?_; rintro e w2 ⟨rfl, hb⟩; replace hL := bstep hL hb; clear hb) | (with_reducible refine (HW _ (Below.refl _ _)).mono ?_; rintro e w1 ⟨rfl, hL⟩)))
  go_ret
  exact ⟨rfl, hL⟩
set_option maxRecDepth 20000 in
theorem enc_long2 (a1 a2 : Option Addr) (n k c1 c2 : Nat) (m : Int) (w : World) (hm : w.cell? ⟨0, 0, none⟩ = some (.int .i64 m)) (h1 : (n : Int) ≤ 50) (h : (500 : Int) < (k : Int)) :
    Calls Tryd.prog 3 #[.slice a1 n c1, .slice a2 k c2] w fun e w' => e = .returned (.bool true) ∧ Below w.heap.size w w' := by
  have HW := fun (W : World) (h : Below w.heap.size w W) => awake_any m W (Go.Proofs.YtgfppajbegcaeaaDoor.Sl.cell_kept hm h)
  go_enter Tryd.func3, Tryd.ntmps3
  go_wp2_with (go_at_call 10; (first | (with_reducible refine (HW _ hL).mono ?_; rintro e w2 ⟨rfl, hb⟩; replace hL := bstep hL hb; clear hb) | (with_reducible refine (HW _ (Below.refl _ _)).mono ?_; rintro e w1 ⟨rfl, hL⟩)))
  go_ret
  exact ⟨rfl, hL⟩
set_option maxRecDepth 20000 in
set_option maxHeartbeats 1000000 in
theorem enc_go (l : List V3) (b : List UInt8) (a1 a2 : Option Addr) (n k c1 c2 : Nat) (m : Int) (w : World) (hm : w.cell? ⟨0, 0, none⟩ = some (.int .i64 m)) (hn : n = l.length) (hk : k = b.length) (h1 : (n : Int) ≤ 50) (h2 : (k : Int) ≤ 500)
    (hs : Vs w (.slice a1 n c1) l) (hbs : Bs w (.slice a2 k c2) b) (hg : ∀ u ∈ l, GoodV u) :
    Calls Tryd.prog 3 #[.slice a1 n c1, .slice a2 k c2] w fun e w' => e = .returned (.bool true) ∧ Below w.heap.size w w' := by
  have HW := fun (W : World) (h : Below w.heap.size w W) => awake_any m W (Go.Proofs.YtgfppajbegcaeaaDoor.Sl.cell_kept hm h)
  have HD1 := fun (W : World) (h : Below w.heap.size w W) => decode_u b _ W (by omega) (hbs.below h)
  have HD2 := fun (W : World) (h : Below w.heap.size w W) => rdecode_u b _ W (by omega) (hbs.below h)
  have hf : ∀ v ∈ l, FitV v := fun v hv => (hg v hv).1
  have hz : SzL l := fun v hv => (hg v hv).2
  have HA := fun (W : World) (h : Below w.heap.size w W) => rall_any l _ W (by omega) hz (hs.below h)
  have HS := Lib.hid (fun (W : World) (h : Below w.heap.size w W) => hs.below h)
  have HN := Lib.hid (show l.length ≤ 50 by omega)
  have hK := decR_len b
  generalize decR b = R at HD1 HD2 hK
  generalize decK b = K at HD1 HD2
  clear hs hbs hm hn hk
  cases hv : allV l
  · have HE := fun (W : World) (h : Below w.heap.size w W) => encode_bad l _ W (by have := HN.out; omega) hv (HS.out W h)
    rw [hv] at HA
    go_enter Tryd.func3, Tryd.ntmps3
    go_upto_region 3 with (go_at_call 10; (with_reducible refine (HW _ (Below.refl _ _)).mono ?_); rintro e w1 ⟨rfl, hL⟩)
    go_upto_region 4 with (go_at_call 11; (with_reducible refine (HD1 _ hL).mono ?_); rintro e w2 ⟨v1, rfl, hv1, hb⟩; replace hL := bstep hL hb; clear hb)
    go_upto_region 5 with (go_at_call 12; (with_reducible refine (HD2 _ hL).mono ?_); rintro e w3 ⟨v2, rfl, hv2, hb⟩; replace hL := bstep hL hb; replace hv1 := hv1.below hb; clear hb)
    go_upto_region 7 with (go_at_call 13; (with_reducible refine (equal_self R _ _ _ (by omega) hv1 hv2).mono ?_); rintro e w4 ⟨rfl, hb⟩; replace hL := bstep hL hb; clear hb hv1 hv2)
    go_upto_region 8 with (go_at_call 14; (with_reducible refine (HE _ hL).mono ?_); rintro e w5 ⟨rfl, hb⟩; replace hL := bstep hL hb; clear hb)
    go_wp2_with (go_at_call 15; (with_reducible refine (HA _ hL).mono ?_); rintro e w6 ⟨rfl, hb⟩; replace hL := bstep hL hb; clear hb)
    go_ret
    exact ⟨rfl, hL⟩
  · have HE := fun (W : World) (h : Below w.heap.size w W) => encode_any l _ W (by have := HN.out; omega) hf hv (HS.out W h)
    have HR := fun (W : World) (h : Below w.heap.size w W) => rencode_any l _ W (by have := HN.out; omega) hf hv (HS.out W h)
    have HL := Lib.hid (show decR (encL l) = l ∧ decK (encL l) = 0 ∧ (encL l).length ≤ 900000 by
      have h3 := dec_enc l [] hf hv (by have := HN.out; simp; omega)
      rw [List.nil_append] at h3
      refine ⟨by unfold decR; rw [h3]; rfl, by unfold decK; rw [h3]; rfl, ?_⟩
      have := encL_len l hv
      have := HN.out
      omega)
    rw [hv] at HA
    go_enter Tryd.func3, Tryd.ntmps3
    go_upto_region 3 with (go_at_call 10; (with_reducible refine (HW _ (Below.refl _ _)).mono ?_); rintro e w1 ⟨rfl, hL⟩)
    go_upto_region 4 with (go_at_call 11; (with_reducible refine (HD1 _ hL).mono ?_); rintro e w2 ⟨v1, rfl, hv1, hb⟩; replace hL := bstep hL hb; clear hb)
    go_upto_region 5 with (go_at_call 12; (with_reducible refine (HD2 _ hL).mono ?_); rintro e w3 ⟨v2, rfl, hv2, hb⟩; replace hL := bstep hL hb; replace hv1 := hv1.below hb; clear hb)
    go_upto_region 7 with (go_at_call 13; (with_reducible refine (equal_self R _ _ _ (by omega) hv1 hv2).mono ?_); rintro e w4 ⟨rfl, hb⟩; replace hL := bstep hL hb; clear hb hv1 hv2)
    go_upto_region 8 with (go_at_call 14; (with_reducible refine (HE _ hL).mono ?_); rintro e w5 ⟨vc, rfl, hB⟩; have hvc := hB.bs; replace hL := bstep hL hB.2; clear hB)
    go_upto_region 10 with (go_at_call 15; (with_reducible refine (HA _ hL).mono ?_); rintro e w6 ⟨rfl, hb⟩; replace hL := bstep hL hb; replace hvc := hvc.below hb; clear hb)
    have HD3 := decode_u (encL l) vc w6 HL.out.2.2 hvc
    rw [HL.out.1, HL.out.2.1] at HD3
    go_upto_region 11 with (go_at_call 11; (with_reducible refine HD3.mono ?_); rintro e w7 ⟨vy, rfl, hvy, hb⟩; replace hL := bstep hL hb; replace hvc := hvc.below hb; clear hb)
    clear HD3
    go_wp2_with (first | (go_at_call 17; (with_reducible refine (HR _ hL).mono ?_); rintro e w8 ⟨vr, rfl, hB⟩; replace hL := bstep hL hB.2; replace hvc := hvc.below hB.2; replace hvy := hvy.below hB.2; have hvr := hB.sl; clear hB) | (go_at_call 16; (with_reducible refine (bequal_self (encL l) _ _ _ (by have := HL.out.2.2; omega) (bs_sl hvc) hvr).mono ?_); rintro e w9 ⟨rfl, hb⟩; replace hL := bstep hL hb; replace hvy := hvy.below hb; clear hb) | (go_at_call 13; (with_reducible refine (equal_self l _ _ _ (by have := HN.out; omega) hvy (HS.out _ hL)).mono ?_); rintro e w10 ⟨rfl, hb⟩; replace hL := bstep hL hb; clear hb))
    go_ret
    exact ⟨rfl, hL⟩
theorem valueEncodes_walk (vl : Value) (l : List V3) (vb : Value) (b : List UInt8) (m : Int) (w : World) (hm : w.cell? ⟨0, 0, none⟩ = some (.int .i64 m)) (hs : Vs w vl l) (hl : l.length ≤ 9223372036854775807) (hg : ∀ u ∈ l, GoodV u) (hbs : Bs w vb b) (hlb : b.length ≤ 9223372036854775807) :
    Calls Tryd.prog 3 #[vl, vb] w fun e w' => e = .returned (.bool true) ∧ Below w.heap.size w w' := by
  obtain ⟨a1, c1, rfl⟩ := hs.form
  obtain ⟨a2, c2, rfl⟩ := hbs.1.form
  by_cases h1 : 50 < l.length
  · exact enc_long a1 a2 _ _ c1 c2 m w hm (by omega)
  by_cases h2 : 500 < b.length
  · exact enc_long2 a1 a2 _ _ c1 c2 m w hm (by omega) (by omega)
  exact enc_go l b a1 a2 _ _ c1 c2 m w hm rfl rfl (by omega) (by omega) hs hbs hg
end Go.Proofs.YtgfppajbegcaeaaDoor.Va
