/-
  The walk of Decode (layer 33).
-/
import Derived.Test.YtgfppajbegcaeaaDoorVaK
import Derived.Deep.RegionHeldLaw
set_option linter.unusedSimpArgs false
set_option linter.unusedVariables false
namespace Go.Proofs.YtgfppajbegcaeaaDoor.Va
open Go.RowKit Go.ChangeShapes Go.WideShapes Go.Proofs.YtgfppajbegcaeaaDoor.Sl

theorem infoV : (Tryd.prog.info? 32).map (fun i => (i.zero, i.size, i.bytes)) = some (some (.agg #[.int .i64 0, .int .i64 0, .string ⟨#[]⟩]), 3, 32) := by kernel_rfl
/-- The slice v is the call's own and holds the values l. -/
def Vf (W0 w : World) (v : Value) (l : List V3) : Prop := w.ownsRow W0.heap.size 32 3 v l.length (flatV l) ∧ Below W0.heap.size W0 w
theorem Vf.alloc {W0 w : World} {v : Value} {b : List V3} (h : Vf W0 w v b) (o : Obj) : Vf W0 (w.alloc o) v b := ⟨h.1.alloc o, h.2.alloc h.2.size o⟩
theorem Vf.below {W0 w w' : World} {v : Value} {b : List V3} (h : Vf W0 w v b) (hb : Below w.heap.size w w') : Vf W0 w' v b := by
  refine ⟨?_, bstep h.2 hb⟩
  obtain ⟨h1, h2⟩ := h.1
  refine ⟨h1, ?_⟩
  rcases h2 with ⟨rfl, h0⟩ | ⟨g, cap, cur, rfl, hg, hh, h3⟩
  · exact .inl ⟨rfl, h0⟩
  · refine .inr ⟨g, cap, cur, rfl, hg, ?_, h3⟩
    rw [hb.block g (Array.getElem?_eq_some_iff.1 hh).1]; exact hh
theorem Vf.vs {W0 w : World} {v : Value} {b : List V3} (h : Vf W0 w v b) : Vs w v b := Sl.of_owns h.1
theorem flatV_snoc (l : List V3) (v : V3) : flatV (l ++ [v]) = flatV l ++ [.int .i64 v.1, .int .i64 v.2.1, .string v.2.2] := by
  unfold flatV
  rw [List.map_append, List.flatten_append]
  rfl
/-- What Decode returns. -/
def DecP (w : World) (Z : Option (List V3)) (e : Ending) (w' : World) : Prop := Below w.heap.size w w' ∧ match Z with
  | none => e = .returned (.tuple #[.slice none 0 0, .int .i64 16])
  | some l => ∃ v, e = .returned (.tuple #[v, .int .i64 0]) ∧ Vs w' v l
theorem DecP.no {w w' : World} {Z : Option (List V3)} (h : Z = none) (hb : Below w.heap.size w w') : DecP w Z (.returned (.tuple #[.slice none 0 0, .int .i64 16])) w' := by subst h; exact ⟨hb, rfl⟩
theorem DecP.yes {w w' : World} {Z : Option (List V3)} {l : List V3} {v : Value} (h : Z = some l) (hv : Vf w w' v l) : DecP w Z (.returned (.tuple #[v, .int .i64 0])) w' := by subst h; exact ⟨hv.2, v, rfl, hv.vs⟩
theorem heap_alloc_size' (w : World) (o : Obj) : (w.alloc o).heap.size = w.heap.size + 1 := by simp
theorem gp_refl (w : World) (r : Option Nat) : w.grownBy w r := ⟨rfl, rfl, rfl, Nat.le_refl _, fun _ _ _ => rfl⟩
theorem gp_alloc {w w1 : World} {r : Option Nat} (h : w.grownBy w1 r) (o : Obj) : w.grownBy (w1.alloc o) r := h.trans (World.grownBy_alloc w1 o r)
theorem gp_drew {w w1 : World} {r : Option Nat} (h : w.grownBy w1 r) : w.grownBy w1.drew r := ⟨h.os, h.tape, h.output, h.size, h.block⟩
def lenOf : Value → Nat
  | .slice _ n _ => n
  | _ => 0

/-- What is left behind the first K bytes. -/
theorem Bs.tail {w : World} {ad : Option Addr} {n cap K : Nat} {q r b : List UInt8} (h : Bs w (.slice ad n cap) b) (hb : b = q ++ r) (hK : K = q.length) :
    n - K = r.length ∧ (cap = K → Bs w (.slice ad (n - K) 0) r) ∧ (¬ cap = K → Bs w (.slice (Option.map (fun x => x.add K) ad) (n - K) (cap - K)) r) := by
  subst hb hK
  obtain ⟨h1, ad2, cap2, he, h2, h3⟩ := h
  simp only [Value.slice.injEq] at he
  obtain ⟨rfl, hn, rfl⟩ := he
  rw [List.length_append] at hn h2
  subst hn
  have hr : q.length + r.length - q.length = r.length := by omega
  rw [hr]
  refine ⟨rfl, fun e => ?_, fun e => ?_⟩
  · have : r = [] := List.length_eq_zero_iff.1 (by omega)
    subst this
    exact ⟨Sl.mk0 _ _ _ _, ad, 0, rfl, by simp, by unfold maxLen; omega⟩
  · refine ⟨⟨by simp, _, _, rfl, fun h0 => ?_⟩, _, _, rfl, by omega, by omega⟩
    obtain ⟨_, ad3, cap3, he, hx⟩ := h1
    simp only [Value.slice.injEq] at he
    obtain ⟨rfl, _, rfl⟩ := he
    obtain ⟨g, off, rfl, hc⟩ := hx (by rw [List.length_append]; omega)
    refine ⟨g, off + q.length, by simp [Addr.add], fun j u hu => ?_⟩
    have := hc (q.length + j) u (by rw [bcs_app, List.getElem?_append_right (by simp)]; simpa using hu)
    rw [← Nat.add_assoc] at this
    exact this
/-- What Decode's loop keeps. -/
def DecR (w : World) (Z : Option (List V3)) (sb v : Value) (wr : World) : Prop := ∃ (rest : List UInt8) (acc : List V3) (ad : Option Addr) (n cap : Nat), rest.length ≤ 900000 ∧ n = rest.length ∧ sb = .slice ad n cap ∧ Bs w sb rest ∧ Hid (decA rest.length acc rest = Z) ∧ acc.length ≤ 1000 ∧ Vf w wr v acc
set_option maxRecDepth 20000 in
set_option maxHeartbeats 2000000 in
theorem decode_any (b : List UInt8) (s : Value) (w : World) (hl : b.length ≤ 900000) (hs : Bs w s b) : Calls Tryd.prog 11 #[s] w (DecP w (decA b.length [] b)) := by
  obtain ⟨i0, hi, hz0, hz1, hz2⟩ := info_parts infoV
  obtain ⟨Z, hZ⟩ : ∃ Z, decA b.length [] b = Z := ⟨_, rfl⟩
  have HZ := Lib.hid hZ
  have HS := Lib.hid hs
  rw [hZ]
  clear hZ hs
  go_enter Tryd.func11, Tryd.ntmps11
  go_wp2
  go_loopw [0, 4] (fun sb v wr => DecR w Z sb v wr) (fun sb _ _ => lenOf sb)
  case atStart =>
    obtain ⟨_, ad, cap, rfl, _, _⟩ := HS.out
    exact ⟨b, [], ad, b.length, cap, hl, rfl, rfl, HS.out, Lib.hid HZ.out, by simp, World.ownsRow_nil _ _ _ _, Below.refl _ _⟩
  case round =>
    obtain ⟨rest, acc, ad, n, cap, hrl, hn, rfl, hB, HI, hN1, hV⟩ := hrel
    have HN := Lib.hid hn
    obtain ⟨va, vc, rfl⟩ := hV.vs.form
    obtain ⟨N, hNa⟩ : ∃ N, N = acc.length := ⟨_, rfl⟩
    have HNA := Lib.hid hNa
    rw [← hNa] at hV hN1 ⊢
    clear hNa
    by_cases h0 : n = 0
    · subst h0
      have e : rest = [] := List.length_eq_zero_iff.1 hn.symm
      have HE := Lib.hid (show Z = some acc by rw [← HI.out, e, decA_nil])
      clear hn e hB HN
      go_wp2
      go_ret2
      exact DecP.yes HE.out hV
    · have hne : rest ≠ [] := fun e => h0 (by rw [hn, e]; rfl)
      have HO := fun W (h : Bs W (.slice ad n cap) rest) => one_any rest _ W hne hrl h
      have HB := Lib.hid hB
      have hn0 : (0 : Int) < (n : Int) := by omega
      have HNE := Lib.hid hne
      have hcap : n ≤ cap ∧ cap ≤ maxLen := by
        obtain ⟨_, ad2, cap2, he, h1, h2⟩ := hB
        simp only [Value.slice.injEq] at he
        obtain ⟨_, _, rfl⟩ := he
        exact ⟨by rw [hn]; exact h1, h2⟩
      have HCAP := Lib.hid hcap
      clear hcap
      rw [← hn] at hrl
      clear hn hB hne
      go_wp2_with (fail)
      refine (HO _ (HB.out.below hV.2)).mono ?_
      rintro e w1 ⟨⟨vk, vn, vs⟩, m, rfl, hb1, hone⟩
      replace hV := hV.below hb1
      clear HO
      rcases hone with ⟨ho, rfl⟩ | ⟨r, ho, hm⟩
      · have HE := Lib.hid (show Z = none by rw [← HI.out]; exact decA_none acc rest ho HNE.out)
        clear ho
        go_wp2
        go_ret2
        exact DecP.no HE.out (by have hz := hV.2.size; have := hV.2; go_grown)
      · have hst := decA_step acc rest _ r ho
        obtain ⟨q, hq, hq2⟩ := oneV_lt _ _ _ ho
        have hrq : n = q.length + r.length := by rw [HN.out, hq, List.length_append]
        have hqr : rest.length = q.length + r.length := by rw [hq, List.length_append]
        obtain rfl : m = (q.length : Int) := by rw [hm, hqr]; omega
        clear hqr
        have HQ := Lib.hid hq
        have hqn : (q.length : Int) ≤ (n : Int) := by omega
        have hq2' : ((q.length : Int) == 0) = false := by rw [beq_eq_false_iff_ne]; omega
        have hq2n : ¬ (q.length : Int) = 0 := by omega
        have HVV := fun W => valid_any (vk, vn, vs) W
        rw [HI.out] at hst
        have HST := Lib.hid hst
        have HRQ := Lib.hid hrq
        clear hst ho hq hm hrq
        cases hval : validV (vk, vn, vs)
        · rw [hval] at HVV
          have HE := Lib.hid (show Z = none by rw [HST.out, if_pos (.inl hval)])
          clear hval
          go_wp2_with (go_at_call 21; (with_reducible refine (HVV _).mono ?_); rintro e w2 ⟨rfl, hb2⟩; have hL := bstep ((hV.alloc _).2) hb2)
          go_ret2
          exact DecP.no HE.out hL
        · rw [hval] at HVV
          by_cases hacc : N = 1000
          · have HE := Lib.hid (show Z = none by rw [HST.out, if_pos (.inr (by rw [← HNA.out]; exact hacc))])
            clear hval
            subst hacc
            go_wp2_with (go_at_call 21; (with_reducible refine (HVV _).mono ?_); rintro e w2 ⟨rfl, hb2⟩; have hL := bstep ((hV.alloc _).2) hb2)
            go_ret2
            exact DecP.no HE.out hL
          · have HE := Lib.hid (show Z = decA r.length (acc ++ [(vk, vn, vs)]) r by rw [HST.out, if_neg (by rw [← HNA.out]; simp [hval, hacc])])
            have hacc2 : ((N : Int) == 1000) = false := by simp; omega
            have hacc3 : ¬ (N : Int) = 1000 := by omega
            clear hval
            go_wp2_with (go_at_call 21; (with_reducible refine (HVV _).mono ?_); rintro e w2 ⟨rfl, hb2⟩; have hL := bstep ((hV.alloc _).2) hb2)
            obtain ⟨b0, b1, b2⟩ := box3 (box_new w1 #[.int .i64 vk, .int .i64 vn, .string vs] 32)
            replace b0 := cell_kept b0 hb2
            replace b1 := cell_kept b1 hb2
            replace b2 := cell_kept b2 hb2
            obtain ⟨K, hK⟩ : ∃ K, K = q.length := ⟨_, rfl⟩
            have HK := Lib.hid hK
            rw [← hK] at hqn hq2' hq2n ⊢
            obtain ⟨hcap, hcm⟩ := HCAP.out
            unfold maxLen at hcm
            have hkc : (K : Int) ≤ (cap : Int) := by omega
            have hV2 := (hV.alloc (.cells #[.int .i64 vk, .int .i64 vn, .string vs] 32)).below hb2
            have hown0 : w2.ownsRow w.heap.size 32 3 (.slice va N vc) N (flatV acc) := by have := hV2.1; rw [← HNA.out] at this; exact this
            have HOW := Lib.hid hown0
            have HV2 := Lib.hid hV2.2
            clear hown0
            have hwz := hV2.2.size
            have hK0 : 0 ≤ (K : Int) ∧ (K : Int) ≤ (n : Int) := by omega
            have hneP : (Value.slice va N vc).ownBlock ≠ some w1.heap.size := fun e => by have := (hV.1.lt _ e).2; omega
            have HNP := Lib.hid hneP
            have hb2s := hb2.size
            rw [heap_alloc_size'] at hb2s
            clear hneP
            clear hK hqn hq2' hq2n hcap hb2 hV2
            by_cases hkc2 : cap = K
            · have HKC := Lib.hid hkc2
              go_region_held_law (fun w' => w'.cell? ⟨w1.heap.size, 0, none⟩ = some (.int .i64 vk) ∧ w'.cell? ⟨w1.heap.size, 1, none⟩ = some (.int .i64 vn) ∧ w'.cell? ⟨w1.heap.size, 2, none⟩ = some (.string vs)) (first | go_keep | (go_split_ands; refine ⟨?_, ?_, ?_⟩ <;> (rw [hgr.cell_far _ (by simp; omega) (Ne.symm HNP.out)]; assumption))) ((refine step_append_lies _ (by rfl) _ _ _ (by rfl) w.heap.size 32 i0 _ 3 32 Tryd.underlying22 hi hz0 hz1 hz2 rfl (by decide) (.slice va N vc) N (flatV acc) (by rfl) ((HOW.out.alloc _).drew) ⟨w2.heap.size, 0, none⟩ 1 1 [.int .i64 vk, .int .i64 vn, .string vs] (by rfl) (by rfl) (World.news_of_block (cs := #[.int .i64 vk, .int .i64 vn, .string vs]) (t := 32) (fr := (0, 0)) (heap_alloc_new w2 _)) (by simp [Value.oneCell']) (by omega) (by unfold maxLen; omega) (by omega) (by simp; omega) (w2.heap.size + 1) (by simp) ?_; intro g1 cap1 w3 hown2 hgr hG hlt2))
              simp only [List.getElem_toArray, List.getElem_cons_succ, List.getElem_cons_zero, List.set_cons_zero, List.set_cons_succ, List.setIfInBounds_toArray]
              have hgr2 : w2.grownBy w3 (Value.slice va N vc).ownBlock := (gp_drew (gp_alloc (gp_refl w2 _) _)).trans hgr
              have hL3 := grow_step HV2.out hgr2 (fun k hk => (HOW.out.lt k hk).1)
              have hV3 : Vf w w3 (.slice (some ⟨g1, 0, none⟩) (N + 1) cap1) (acc ++ [(vk, vn, vs)]) := ⟨by
                have hx := hown2
                rw [HNA.out, ← flatV_snoc acc (vk, vn, vs)] at hx
                rw [HNA.out, List.length_append]
                exact hx, hL3⟩
              have HV3 := Lib.hid hV3
              have hBt := Bs.tail HB.out HQ.out HK.out
              have HR := Lib.hid (show DecR w Z (.slice ad (n - K) 0) (.slice (some ⟨g1, 0, none⟩) (N + 1) cap1) w3 from ⟨r, acc ++ [(vk, vn, vs)], _, _, _, by have := HRQ.out; omega, hBt.1, rfl, hBt.2.1 HKC.out, Lib.hid HE.out.symm, by rw [List.length_append, ← HNA.out]; simp; omega, hV3⟩)
              clear hV3 hBt hown2 hgr hG hgr2
              go_wp2
              go_roundw
              case rel => exact HR.out
              case measure => have := HK.out; simp [lenOf]; omega
            · have HKC := Lib.hid hkc2
              go_region_held_law (fun w' => w'.cell? ⟨w1.heap.size, 0, none⟩ = some (.int .i64 vk) ∧ w'.cell? ⟨w1.heap.size, 1, none⟩ = some (.int .i64 vn) ∧ w'.cell? ⟨w1.heap.size, 2, none⟩ = some (.string vs)) (first | go_keep | (go_split_ands; refine ⟨?_, ?_, ?_⟩ <;> (rw [hgr.cell_far _ (by simp; omega) (Ne.symm HNP.out)]; assumption))) ((refine step_append_lies _ (by rfl) _ _ _ (by rfl) w.heap.size 32 i0 _ 3 32 Tryd.underlying22 hi hz0 hz1 hz2 rfl (by decide) (.slice va N vc) N (flatV acc) (by rfl) ((HOW.out.alloc _).drew) ⟨w2.heap.size, 0, none⟩ 1 1 [.int .i64 vk, .int .i64 vn, .string vs] (by rfl) (by rfl) (World.news_of_block (cs := #[.int .i64 vk, .int .i64 vn, .string vs]) (t := 32) (fr := (0, 0)) (heap_alloc_new w2 _)) (by simp [Value.oneCell']) (by omega) (by unfold maxLen; omega) (by omega) (by simp; omega) (w2.heap.size + 1) (by simp) ?_; intro g1 cap1 w3 hown2 hgr hG hlt2))
              simp only [List.getElem_toArray, List.getElem_cons_succ, List.getElem_cons_zero, List.set_cons_zero, List.set_cons_succ, List.setIfInBounds_toArray]
              have hgr2 : w2.grownBy w3 (Value.slice va N vc).ownBlock := (gp_drew (gp_alloc (gp_refl w2 _) _)).trans hgr
              have hL3 := grow_step HV2.out hgr2 (fun k hk => (HOW.out.lt k hk).1)
              have hV3 : Vf w w3 (.slice (some ⟨g1, 0, none⟩) (N + 1) cap1) (acc ++ [(vk, vn, vs)]) := ⟨by
                have hx := hown2
                rw [HNA.out, ← flatV_snoc acc (vk, vn, vs)] at hx
                rw [HNA.out, List.length_append]
                exact hx, hL3⟩
              have HV3 := Lib.hid hV3
              have hBt := Bs.tail HB.out HQ.out HK.out
              have HR := Lib.hid (show DecR w Z (.slice (Option.map (fun x => x.add K) ad) (n - K) (cap - K)) (.slice (some ⟨g1, 0, none⟩) (N + 1) cap1) w3 from ⟨r, acc ++ [(vk, vn, vs)], _, _, _, by have := HRQ.out; omega, hBt.1, rfl, hBt.2.2 HKC.out, Lib.hid HE.out.symm, by rw [List.length_append, ← HNA.out]; simp; omega, hV3⟩)
              clear hV3 hBt hown2 hgr hG hgr2
              go_wp2
              go_roundw
              case rel => exact HR.out
              case measure => have := HK.out; simp [lenOf]; omega
end Go.Proofs.YtgfppajbegcaeaaDoor.Va
