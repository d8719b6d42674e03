/-
  Networks: the reference's Points (layer 46). Written by gen_nyd.py.
-/
import Derived.Test.YtoadihclmnjjnaaNyE
set_option linter.unusedSimpArgs false
set_option linter.unusedVariables false
set_option maxRecDepth 100000
namespace Go.Proofs.Ytoadihclmnjjnaa.Nw
open Go Go.RowKit Go.ChangeShapes Go.WideShapes Go.Proofs.Ytoadihclmnjjnaa.Sl Go.Proofs.Ytoadihclmnjjnaa.Al Go.Lib
open Go.Proofs.Ytoadihclmnjjnaa.Iv (validB ofZ sgn)

set_option maxHeartbeats 8000000 in
theorem rpoints_any (n : Nat) (l : List Rl) (s : Value) (w : World) (hs : Rs w s l) (hv : vldN (n : Int) l = true) : Calls Try.prog 39 #[.int .i64 (n : Int), s] w (PtE n l w) := by
  obtain ⟨k, hk, n0, n8, l200, hok⟩ := vld_ok hv
  obtain rfl : n = k := by omega
  obtain ⟨ad, c, rfl⟩ := hs.form
  obtain ⟨q, hq⟩ : ∃ q, q = l.length := ⟨_, rfl⟩
  have HQ := Lib.hid hq
  have HS := Lib.hid hs
  have HOK := Lib.hid hok
  rw [← hq] at HS ⊢
  have q200 : (q : Int) ≤ 200 := by omega
  clear hs hv hk hq hok
  go_enter Try.func39, Try.ntmps39
  go_wp2
  go_loopw [7] (fun kv wr => ∃ k : Nat, k ≤ q ∧ kv = .int .i64 (k : Int) ∧ Hid (((l.take k).any fun r => r.s == 0) = false) ∧ wr = w) (fun kv _ => q - (RowKit.intOf kv).toNat)
  case atStart => exact ⟨0, Nat.zero_le _, rfl, Lib.hid rfl, rfl⟩
  case round =>
    obtain ⟨k, hk, rfl, hz, rfl⟩ := hrel
    by_cases hkq : k < q
    · obtain ⟨gl, ol, cl, e2, hcr⟩ := HS.out.get (by rw [← HQ.out]; omega)
      rw [← HQ.out] at e2
      cases e2
      obtain ⟨x, ht⟩ : ∃ t, l[k]? = some t := ⟨_, List.getElem?_eq_getElem (by rw [← HQ.out]; exact hkq)⟩
      have HT := Lib.hid ht
      obtain ⟨z0, z1, z2⟩ := hcr k _ ht
      have k0 : (0 : Int) ≤ (k : Int) := by omega
      have k1 : (k : Int) < (q : Int) := by omega
      have HTN := Lib.hid (show ((l.take (k + 1)).any fun r => r.s == 0) = (x.s == 0) by rw [List.take_add_one, ht, List.any_append, hz.out]; simp)
      clear hcr ht
      generalize hxs : x.s = xs at *
      have HXS := Lib.hid hxs
      clear hxs
      cases h0 : (xs == 0)
      · have HN := Lib.hid (show ((l.take (k + 1)).any fun r => r.s == 0) = false by rw [HTN.out, h0])
        go_wp2
        go_roundw
        case rel => exact ⟨k + 1, by omega, by go_num, HN, trivial⟩
        case measure => simp [RowKit.intOf]; omega
      · have HA := Lib.hid (show (l.any fun r => r.s == 0) = true from List.any_eq_true.2 ⟨x, List.mem_of_getElem? HT.out, by rw [HXS.out]; exact h0⟩)
        go_wp2
        refine bodyPost_ret (by simp [results, Try.results39, go_sem]; try rfl) rfl ?_
        exact ⟨Below.refl _ _, Or.inl ⟨HA.out, rfl⟩⟩
    · have hkqe : k = q := by omega
      have HZ := Lib.hid (show (l.any fun r => r.s == 0) = false by have := hz.out; rwa [hkqe, HQ.out, List.take_length] at this)
      clear hz hkqe
      obtain ⟨w2, rfl⟩ : ∃ x, x = wr := ⟨wr, rfl⟩
      have HB0 := Lib.hid (show Bf w2 w2 (.slice none 0 0) (bnd0 0) from Bf.nil w2)
      go_wp2
      go_loopw [8, 10] (fun v iv wr => ∃ i : Nat, i ≤ n ∧ iv = .int .i64 (i : Int) ∧ Hid (Bf w2 wr v (bnd0 i))) (fun _ iv _ => n - (RowKit.intOf iv).toNat)
      case atStart => exact ⟨0, Nat.zero_le _, rfl, HB0⟩
      case round =>
        clear HB0
        obtain ⟨i, hi, rfl, hB⟩ := hrel
        by_cases hin : i < n
        · have hwa : IntKind.i64.wrap (2 * (i : Int)) = 2 * (i : Int) := IntWalk.i64_in _ (by omega)
          have hwb : IntKind.i64.wrap (2 * (i : Int) + 1) = 2 * (i : Int) + 1 := IntWalk.i64_in _ (by omega)
          have hlen : (bnd0 i).length ≤ 1000000 := by unfold bnd0; rw [List.length_map, List.length_range]; omega
          go_wp2_with (at_builtin; refine wp_bnd hB.out rfl (.tmp 41) (.tmp 48) rfl rfl 68 rfl (by simp) ⟨2 * (i : Int) + 1, 2 * (i : Int), -1⟩ hlen ?_; intro v1 w1 hB1 _)
          have HB1 := Lib.hid (show Bf w2 w1 v1 (bnd0 (i + 1)) by rw [bnd0_succ]; exact hB1)
          clear hB1
          go_roundw
          case rel => exact ⟨i + 1, by omega, by go_num, HB1⟩
          case measure => simp [RowKit.intOf]; omega
        · have hine : i = n := by omega
          have HBS := Lib.hid (show Bf w2 wr _ (allB n (l.take 0)) by unfold allB; have h := hB.out; rw [hine] at h; simpa using h)
          have HCS := Lib.hid (show Cf w2 wr (.slice none 0 0) (allC (l.take 0)) from ⟨[], rfl, World.ownsRow_nil _ _ _ _, hB.out.2, nofun⟩)
          have HES := Lib.hid (show ((l.take 0).any fun r => !expr r) = false from rfl)
          clear hB hine
          go_wp2
          go_loopw [8, 9, 11] (fun v8 v9 qv wr => ∃ k : Nat, k ≤ q ∧ qv = .int .i64 (k : Int) ∧ Hid (Bf w2 wr v8 (allB n (l.take k))) ∧ Hid (Cf w2 wr v9 (allC (l.take k))) ∧ Hid (((l.take k).any fun r => !expr r) = false)) (fun _ _ qv _ => q - (RowKit.intOf qv).toNat)
          case atStart => exact ⟨0, Nat.zero_le _, rfl, HBS, HCS, HES⟩
          case round =>
            clear HBS HCS HES
            obtain ⟨k, hk, rfl, hB, hC, hE⟩ := hrel
            by_cases hkq : k < q
            · obtain ⟨gl, ol, cl, e2, hcr⟩ := (HS.out.below hB.out.2).get (by rw [← HQ.out]; omega)
              rw [← HQ.out] at e2
              cases e2
              obtain ⟨x, ht⟩ : ∃ t, l[k]? = some t := ⟨_, List.getElem?_eq_getElem (by rw [← HQ.out]; exact hkq)⟩
              have HT := Lib.hid ht
              obtain ⟨i, j, s, rfl, hi2, hj2, hs8⟩ := HOK.out x (List.mem_of_getElem? ht)
              obtain ⟨z0, z1, z2⟩ := hcr k _ ht
              dsimp only at z0 z1 z2
              have k0 : (0 : Int) ≤ (k : Int) := by omega
              have k1 : (k : Int) < (q : Int) := by omega
              clear hcr ht
              go_upto_region 17 with fail
              obtain ⟨W1, hW1⟩ : ∃ W1, W1 = (wr.alloc (.cells #[.int .i64 (i : Int), .int .i64 (j : Int), .int .i64 (s : Int)] 30)).alloc (.cells #[.int .i64 0, .int .i64 0, .int .i64 0, .int .i64 0] 3) := ⟨_, rfl⟩
              have hb1 : Below wr.heap.size wr W1 := by rw [hW1]; exact ((Below.refl _ _).alloc (Nat.le_refl _) _).alloc (by simp) _
              have hRC : W1.heap[wr.heap.size]? = some (.cells #[.int .i64 (i : Int), .int .i64 (j : Int), .int .i64 (s : Int)] 30 (0, 0)) := by
                rw [hW1, Below.heap_alloc _ _ _ (by simp)]
                exact heap_alloc_new wr _
              have hD : DR W1 (wr.heap.size + 1) (fun _ => 0) := by
                have := heap_alloc_new (wr.alloc (.cells #[.int .i64 (i : Int), .int .i64 (j : Int), .int .i64 (s : Int)] 30)) (.cells #[.int .i64 0, .int .i64 0, .int .i64 0, .int .i64 0] 3)
                rw [hW1]
                rw [World.size_alloc] at this
                exact this
              obtain ⟨RC, hRCe⟩ : ∃ b, b = wr.heap.size := ⟨_, rfl⟩
              obtain ⟨D, hDe⟩ : ∃ b, b = wr.heap.size + 1 := ⟨_, rfl⟩
              rw [← hW1]
              rw [← hDe] at hD ⊢
              rw [← hRCe] at hRC ⊢
              have HBS := Lib.hid (fun W (h : Below D W1 W) => (show Bf w2 W _ (allB n (l.take k)) ∧ Cf w2 W _ (allC (l.take k)) ∧ W.heap[RC]? = some (.cells #[.int .i64 (i : Int), .int .i64 (j : Int), .int .i64 (s : Int)] 30 (0, 0)) from ⟨hB.out.step (hb1.trans (h.mono (by omega))), hC.out.step (hb1.trans (h.mono (by omega))), (h.block RC (by omega)).trans hRC⟩))
              have HORD := Lib.hid (show D = RC + 1 ∧ W1.heap.size = D + 1 from ⟨by omega, by rw [hW1]; simp; omega⟩)
              have HRC := Lib.hid hRC
              have HD := Lib.hid (show DR W1 D (dRf s 0) from hD)
              clear hW1 hb1 hRC hD hRCe hDe hB hC z0 z1 z2
              go_wp2
              go_loopw [14] (fun mv wr => ∃ m : Nat, m ≤ 13 ∧ mv = .int .i64 (m : Int) ∧ Hid (DR wr D (dRf s m)) ∧ Below D W1 wr) (fun mv _ => 13 - (RowKit.intOf mv).toNat)
              case atStart => exact ⟨0, by omega, rfl, HD, (Below.refl W1.heap.size W1).mono (by have := HORD.out.2; omega)⟩
              case round =>
                clear HD
                obtain ⟨m, hm, rfl, hDR, hL⟩ := hrel
                by_cases hm13 : m < 13
                · have m0 : (0 : Int) ≤ (m : Int) := by omega
                  have m1 : (m : Int) < 13 := by omega
                  have cS : wr.cell? ⟨RC, 2, none⟩ = some (.int .i64 (s : Int)) := by rw [cell_of_row _ _ 2 _ _ _ (HBS.out wr hL).2.2]; rfl
                  have hbt := Bt.bit_test s m (by omega)
                  cases hb : s.testBit m
                  · rw [hb] at hbt
                    have HDN := Lib.hid (show DR wr D (dRf s (m + 1)) from hDR.out.congr (fun u _ => by show (if s.testBit m = true then _ else _) = _; rw [hb]; rfl))
                    clear hb
                    go_wp2
                    go_roundw
                    case rel => exact ⟨m + 1, by omega, by go_num, HDN, hL⟩
                    case measure => simp [RowKit.intOf]; omega
                  · rw [hb] at hbt
                    have HBT := Lib.hid hb
                    have HSG := fun W => rsigns_any m hm13 W
                    clear hb
                    go_wp2_with (go_at_call 81; (with_reducible refine (HSG _).mono ?_); rintro e W5 ⟨g, rfl, hg0, hgh, hb5⟩)
                    have hDR5 := Lib.hid (hDR.out.at (hb5.block D hDR.out.lt))
                    have hgD : D < g := by have := hDR.out.lt; omega
                    have HL5 := Lib.hid (hL.trans (hb5.mono (by have := hL.size; have := HORD.out.2; omega)))
                    have HGH := Lib.hid hgh
                    clear hDR hL cS hbt hb5 hg0 hgh
                    go_loopw [16] (fun pv wr => ∃ p : Nat, p ≤ 4 ∧ pv = .int .i64 (p : Int) ∧ Hid (DR wr D (fun u => if u < p then dRf s (m + 1) u else dRf s m u)) ∧ Md (fun b => b = D) W5 wr) (fun pv _ => 4 - (RowKit.intOf pv).toNat)
                    case atStart => exact ⟨0, Nat.zero_le _, rfl, Lib.hid (hDR5.out.congr (fun u _ => by rw [if_neg (by omega)])), Md.refl _ _⟩
                    case round =>
                      clear hDR5
                      obtain ⟨p, hp, rfl, hDH, hMd⟩ := hrel
                      by_cases hp4 : p < 4
                      · have p0 : (0 : Int) ≤ (p : Int) := by omega
                        have p1 : (p : Int) < 4 := by omega
                        have d1 := hDH.out.cell hp4
                        rw [if_neg (by omega)] at d1
                        have e1 := hMd.kept (rg_cell HGH.out hp4) (by omega)
                        have f1 := hDH.out.frozen p
                        have lD := hDH.out.lt
                        have hdv := dRf_lt s hp4 m (by omega)
                        have hsg2 := (sg1_bd m hm13 p hp4).2
                        have HNX := Lib.hid (show dRf s (m + 1) p = dRf s m p ||| 2 ^ sg1 m p by show (if s.testBit m = true then _ else _) = _; rw [if_pos HBT.out])
                        have hor : bits .or .i64 ((dRf s m p : Nat) : Int) ((pw (sg1 m p) : Nat) : Int) = ((dRf s m p ||| 2 ^ sg1 m p : Nat) : Int) := Bt.bits_or _ _ (by omega) (by have := pow_lt (sg1 m p) (by omega); unfold pw; omega)
                        have hp9 := wrap_pw (sg1 m p) (by omega)
                        have mm0 : (0 : Int) ≤ ((sg1 m p : Nat) : Int) := by omega
                        have mm1 : ((sg1 m p : Nat) : Int) < 13 := by omega
                        clear hsg2 hdv
                        generalize sg1 m p = mm at *
                        generalize hdd : dRf s m p = dv at *
                        clear hdd
                        go_upto_region 25 with fail
                        have z0 := cell_regrown d1
                        have z1 := cell_regrown e1
                        have HD1 := Lib.hid d1
                        have HF1 := Lib.hid f1
                        clear d1 f1 e1
                        refine Lst.wp_region_below_lastN 14 rfl rfl (by kernel_rfl) (by kernel_rfl) (by kernel_rfl) ?_
                        simp only [List.take_succ_cons, List.take_zero]
                        repeat (go_big_quiet_step (fail))
                        refine wpQuiet_nil ?_
                        intro w9 hb9
                        refine ⟨by rfl, ?_⟩
                        have d1 := Go.Proofs.Ytoadihclmnjjnaa.Sl.cell_kept HD1.out hb9
                        have f1 : w9.frozen? ⟨D, p, none⟩ = false := (hb9.frozen (p := ⟨D, p, none⟩) lD).trans HF1.out
                        clear z0 z1
                        go_simp
                        have hDH9 := (hDH.out.at (hb9.block D lD)).set hp4 (dv ||| 2 ^ mm)
                        have hMd9 : Md (fun b => b = D) W5 (w9.setCell ⟨D, p, none⟩ (.int .i64 ((dv ||| 2 ^ mm : Nat) : Int))) := (hMd.step hb9).setCell p (Or.inl rfl) _
                        have HDH9 := Lib.hid hDH9
                        clear d1 f1 hb9 hDH hMd hDH9
                        generalize (w9.setCell ⟨D, p, none⟩ (.int .i64 ((dv ||| 2 ^ mm : Nat) : Int))) = W9 at *
                        go_wp2
                        go_roundw
                        case rel => exact ⟨p + 1, by omega, by go_num, Lib.hid (HDH9.out.congr (fun u hu => by
                          by_cases e : u = p
                          · subst e
                            rw [if_pos (by omega), if_pos rfl, HNX.out]
                          · rw [if_neg e]
                            by_cases e2 : u < p
                            · rw [if_pos (by omega), if_pos e2]
                            · rw [if_neg (by omega), if_neg e2])), hMd9⟩
                        case measure => simp [RowKit.intOf]; omega
                      · have hp4e : p = 4 := by omega
                        have HDH9 := Lib.hid (hDH.out.congr (e := dRf s (m + 1)) (fun u hu => by rw [if_pos (by omega)]))
                        have hLn : Below D W1 wr := HL5.out.trans (hMd.below (by have := HL5.out.size; have := HORD.out.2; omega) (fun u hu => by omega))
                        clear hDH hp4e
                        go_wp2
                        go_roundw
                        case rel => exact ⟨m + 1, by omega, by go_num, HDH9, hLn⟩
                        case measure => simp [RowKit.intOf]; omega
                · have hDR3 := hDR.out.congr (e := dTo (singF s)) (fun u hu => by rw [show m = 13 by omega, dRf_all])
                  obtain ⟨W3, rfl⟩ : ∃ x, x = wr := ⟨wr, rfl⟩
                  have lD3 := hDR3.lt
                  obtain ⟨hB3, hC3, hRC3⟩ := HBS.out W3 hL
                  have HBF := Lib.hid hB3
                  have HCF := Lib.hid hC3
                  have HL3 := Lib.hid hL
                  have HR3 := Lib.hid hRC3
                  have HD3 := Lib.hid hDR3
                  have HXI := Lib.hid (expr_iff hs8)
                  clear hDR hDR3 hB3 hC3 hRC3 hL
                  go_wp2
                  go_loopw [17] (fun mv wr => ∃ m : Nat, m ≤ 13 ∧ mv = .int .i64 (m : Int) ∧ Hid (∀ c, c < m → insd (dTo (singF s)) c 4 = true → s.testBit c = true) ∧ Below W3.heap.size W3 wr) (fun mv _ => 13 - (RowKit.intOf mv).toNat)
                  case atStart => exact ⟨0, by omega, rfl, Lib.hid (fun c hc => by omega), Below.refl _ _⟩
                  case round =>
                    obtain ⟨m, hm, rfl, hall, hL⟩ := hrel
                    by_cases hm13 : m < 13
                    · have m0 : (0 : Int) ≤ (m : Int) := by omega
                      have m1 : (m : Int) < 13 := by omega
                      have HSG := fun W => rsigns_any m hm13 W
                      go_wp2_with (go_at_call 81; (with_reducible refine (HSG _).mono ?_); rintro e W5 ⟨g, rfl, hg0, hgh, hb5⟩)
                      have hL5 := bstep hL hb5
                      have HGH := Lib.hid hgh
                      have HL5 := Lib.hid hL5
                      clear hL hb5 hg0 hgh hL5
                      go_loopw [19, 20] (fun bv pv wr => ∃ p : Nat, p ≤ 4 ∧ bv = .bool (insd (dTo (singF s)) m p) ∧ pv = .int .i64 (p : Int) ∧ Below W5.heap.size W5 wr) (fun _ pv _ => 4 - (RowKit.intOf pv).toNat)
                      case atStart => exact ⟨0, Nat.zero_le _, rfl, rfl, Below.refl _ _⟩
                      case round =>
                        obtain ⟨p, hp, rfl, rfl, hL⟩ := hrel
                        by_cases hp4 : p < 4
                        · have p0 : (0 : Int) ≤ (p : Int) := by omega
                          have p1 : (p : Int) < 4 := by omega
                          have hst := Lib.hid (insd_succ (dTo (singF s)) m p)
                          have e1 := Go.Proofs.Ytoadihclmnjjnaa.Sl.cell_kept (rg_cell HGH.out hp4) hL
                          have d1 := (HD3.out.at ((bstep HL5.out hL).block D HD3.out.lt)).cell hp4
                          have hdv := dTo_lt (singF s) hp4
                          have hsg2 := (sg1_bd m hm13 p hp4).2
                          have mm0 : (0 : Int) ≤ ((sg1 m p : Nat) : Int) := by omega
                          have mm1 : ((sg1 m p : Nat) : Int) < 13 := by omega
                          have hbt := Bt.bit_test (dTo (singF s) p) (sg1 m p) (by omega)
                          cases hf : insd (dTo (singF s)) m p
                          · have hf2 := Lib.hid (show insd (dTo (singF s)) m (p + 1) = false by rw [hst.out, hf]; rfl)
                            clear hf hsg2 hdv hbt e1 d1
                            go_upto_region 34 with fail
                            refine wp_region_quiet_below (by kernel_rfl) (by kernel_rfl) ?_
                            repeat (go_big_quiet_step (fail))
                            refine wpQuiet_nil ?_
                            rintro w9 ⟨⟨dq, osq⟩, hw9⟩
                            have hL9 : Below W5.heap.size W5 w9 := bstep hL (by rw [hw9]; exact below_regrown _ dq osq)
                            clear hw9 hL
                            go_wp2
                            go_roundw
                            case rel => exact ⟨p + 1, by omega, by rw [hf2.out], by go_num, hL9⟩
                            case measure => simp [RowKit.intOf]; omega
                          · have hf2 := Lib.hid (show insd (dTo (singF s)) m (p + 1) = (dTo (singF s) p).testBit (sg1 m p) by rw [hst.out, hf]; rfl)
                            clear hf hsg2 hdv
                            generalize sg1 m p = mm at *
                            generalize dTo (singF s) p = dv at *
                            generalize dv.testBit mm = bb at *
                            go_upto_region 34 with fail
                            have z0 := cell_regrown e1
                            have z1 := cell_regrown d1
                            clear e1 d1
                            refine wp_region_quiet_below (by kernel_rfl) (by kernel_rfl) ?_
                            repeat (go_big_quiet_step (fail))
                            refine wpQuiet_nil ?_
                            rintro w9 ⟨⟨dq, osq⟩, hw9⟩
                            have hL9 : Below W5.heap.size W5 w9 := bstep hL (by rw [hw9]; exact below_regrown _ dq osq)
                            clear hw9 hL z0 z1
                            go_wp2
                            go_roundw
                            case rel => exact ⟨p + 1, by omega, by rw [hf2.out], by go_num, hL9⟩
                            case measure => simp [RowKit.intOf]; omega
                        · have hfe : insd (dTo (singF s)) m p = insd (dTo (singF s)) m 4 := by rw [show p = 4 by omega]
                          rw [hfe]
                          clear hfe
                          have hL3 := bstep HL5.out hL
                          have cS : wr.cell? ⟨RC, 2, none⟩ = some (.int .i64 (s : Int)) := Go.Proofs.Ytoadihclmnjjnaa.Sl.cell_kept (show W3.cell? ⟨RC, 2, none⟩ = some (.int .i64 (s : Int)) by rw [cell_of_row _ _ 2 _ _ _ HR3.out]; rfl) hL3
                          have hbz := bit_zer s m (by omega)
                          cases hf : insd (dTo (singF s)) m 4
                          · have HN := Lib.hid (show ∀ c, c < m + 1 → insd (dTo (singF s)) c 4 = true → s.testBit c = true from fun c hc h => by
                              by_cases e : c = m
                              · subst e; rw [hf] at h; cases h
                              · exact hall.out c (by omega) h)
                            clear hf
                            go_wp2
                            go_roundw
                            case rel => exact ⟨m + 1, by omega, by go_num, HN, hL3⟩
                            case measure => simp [RowKit.intOf]; omega
                          · cases hb : s.testBit m
                            · rw [hb] at hbz
                              have HEX := Lib.hid (show (l.any fun r => !expr r) = true from List.any_eq_true.2 ⟨_, List.mem_of_getElem? HT.out, by
                                have : ¬ (expd (dTo (singF s)) 13 == s) = true := fun h => by have := HXI.out.1 h m hm13 hf; rw [hb] at this; cases this
                                unfold expr
                                rw [Int.toNat_natCast, Bool.eq_false_iff.2 this]; rfl⟩)
                              have hLf := HBF.out.2.trans (hL3.mono HBF.out.2.size)
                              clear hf hb
                              go_wp2
                              refine bodyPost_ret (by simp [results, Try.results39, go_sem]; try rfl) rfl ?_
                              exact ⟨hLf, Or.inr (Or.inl ⟨HZ.out, HEX.out, rfl⟩)⟩
                            · rw [hb] at hbz
                              have HN := Lib.hid (show ∀ c, c < m + 1 → insd (dTo (singF s)) c 4 = true → s.testBit c = true from fun c hc h => by
                                by_cases e : c = m
                                · subst e; exact hb
                                · exact hall.out c (by omega) h)
                              clear hf hb
                              go_wp2
                              go_roundw
                              case rel => exact ⟨m + 1, by omega, by go_num, HN, hL3⟩
                              case measure => simp [RowKit.intOf]; omega
                    · have HEX := Lib.hid (show expr ⟨(i : Int), (j : Int), (s : Int)⟩ = true by
                        unfold expr
                        rw [Int.toNat_natCast]
                        exact HXI.out.2 (fun k hk => hall.out k (by omega)))
                      clear hall
                      have hb4 : Below D W1 wr := HL3.out.trans (hL.mono (Nat.le_of_lt lD3))
                      obtain ⟨hB4, hC4, hRC4⟩ := HBS.out wr hb4
                      have HB4 := Lib.hid (show Bf w2 wr _ (allB n (l.take k) ++ rlB ⟨(i : Int), (j : Int), (s : Int)⟩ 0) by simpa [rlB] using hB4)
                      have HC4 := Lib.hid (show Cf w2 wr _ (allC (l.take k) ++ rlC ⟨(i : Int), (j : Int), (s : Int)⟩ 0) by simpa [rlC] using hC4)
                      have HH4 := Lib.hid (show wr.heap[RC]? = some (.cells #[.int .i64 (i : Int), .int .i64 (j : Int), .int .i64 (s : Int)] 30 (0, 0)) ∧ DR wr D (dTo (singF s)) from ⟨hRC4, HD3.out.at (hL.block D HD3.out.lt)⟩)
                      have HTL := Lib.hid (show l.take (k + 1) = l.take k ++ [⟨(i : Int), (j : Int), (s : Int)⟩] by rw [List.take_add_one, HT.out]; rfl)
                      have HTN := Lib.hid (show (l.take k).length ≤ 200 by rw [List.length_take]; omega)
                      clear hb4 hB4 hC4 hRC4 hL HBS HL3 HBF HCF
                      go_wp2
                      go_loopw [8, 9, 21] (fun v7 v9 pv wr => ∃ p : Nat, p ≤ 4 ∧ pv = .int .i64 (p : Int) ∧ Hid (Bf w2 wr v7 (allB n (l.take k) ++ rlB ⟨(i : Int), (j : Int), (s : Int)⟩ p)) ∧ Hid (Cf w2 wr v9 (allC (l.take k) ++ rlC ⟨(i : Int), (j : Int), (s : Int)⟩ p)) ∧ Hid (wr.heap[RC]? = some (.cells #[.int .i64 (i : Int), .int .i64 (j : Int), .int .i64 (s : Int)] 30 (0, 0)) ∧ DR wr D (dTo (singF s)))) (fun _ _ pv _ => 4 - (RowKit.intOf pv).toNat)
                      case atStart => exact ⟨0, Nat.zero_le _, rfl, HB4, HC4, HH4⟩
                      case round =>
                        clear HB4 HC4 HH4
                        obtain ⟨p, hp, rfl, hB, hC, hH⟩ := hrel
                        by_cases hp4 : p < 4
                        · have p0 : (0 : Int) ≤ (p : Int) := by omega
                          have p1 : (p : Int) < 4 := by omega
                          have cI : wr.cell? ⟨RC, 0, none⟩ = some (.int .i64 (i : Int)) := by rw [cell_of_row _ _ 0 _ _ _ hH.out.1]; rfl
                          have cJ : wr.cell? ⟨RC, 1, none⟩ = some (.int .i64 (j : Int)) := by rw [cell_of_row _ _ 1 _ _ _ hH.out.1]; rfl
                          have d1 := hH.out.2.cell hp4
                          have hd8 := dTo_lt (singF s) hp4
                          have HLB := Lib.hid (allB_len n (l.take k) p ⟨(i : Int), (j : Int), (s : Int)⟩)
                          have HLC := Lib.hid (allC_len (l.take k) p ⟨(i : Int), (j : Int), (s : Int)⟩)
                          have HSB := Lib.hid (rlB_succ ⟨(i : Int), (j : Int), (s : Int)⟩ p)
                          have HSC := Lib.hid (rlC_succ ⟨(i : Int), (j : Int), (s : Int)⟩ p)
                          have hbs := HSB.out
                          have hcs := HSC.out
                          rw [emB_eq, Int.toNat_natCast] at hbs
                          rw [emC_eq, Int.toNat_natCast] at hcs
                          have hpa : ((p / 2 : Nat) : Int) = (p : Int) / 2 := by omega
                          have hpb : ((p % 2 : Nat) : Int) = (p : Int) % 2 := by omega
                          dsimp only at hbs hcs
                          rw [hpa, hpb] at hbs hcs
                          have w1 : IntKind.i64.wrap ((p : Int).tdiv 2) = (p : Int) / 2 := by rw [Int.tdiv_eq_ediv_of_nonneg (by omega), IntKind.wrap_i64]; omega
                          have w2 : IntKind.i64.wrap (2 * (i : Int)) = 2 * (i : Int) := IntWalk.i64_in _ (by omega)
                          have w3 : IntKind.i64.wrap (2 * (j : Int)) = 2 * (j : Int) := IntWalk.i64_in _ (by omega)
                          have w4 : IntKind.i64.wrap (2 * (i : Int) + (p : Int) / 2) = 2 * (i : Int) + (p : Int) / 2 := IntWalk.i64_in _ (by omega)
                          have w5 : IntKind.i64.wrap (2 * (j : Int) + (p : Int) % 2) = 2 * (j : Int) + (p : Int) % 2 := IntWalk.i64_in _ (by omega)
                          clear hpa hpb HSB HSC
                          generalize dTo (singF s) p = dv at *
                          go_upto_region 40 with fail
                          have z0 := cell_regrown cI
                          have z1 := cell_regrown cJ
                          refine wp_region_quiet_below (by kernel_rfl) (by kernel_rfl) ?_
                          repeat (go_big_quiet_step (fail))
                          refine wpQuiet_nil ?_
                          rintro w9 ⟨⟨dq, osq⟩, hw9⟩
                          have hb9 : Below wr.heap.size wr w9 := by rw [hw9]; exact below_regrown _ dq osq
                          have d1 := Go.Proofs.Ytoadihclmnjjnaa.Sl.cell_kept d1 hb9
                          have hB9 := hB.out.step hb9
                          have hC9 := hC.out.step hb9
                          have hR9 := (hb9.block RC (Array.getElem?_eq_some_iff.1 hH.out.1).1).trans hH.out.1
                          have hD9 := hH.out.2.at (hb9.block D hH.out.2.lt)
                          have hl1 : (allB n (l.take k) ++ rlB ⟨(i : Int), (j : Int), (s : Int)⟩ p).length ≤ 1000000 := by have := HLB.out; have := HTN.out; omega
                          have hl2 : (allC (l.take k) ++ rlC ⟨(i : Int), (j : Int), (s : Int)⟩ p).length ≤ 1000000 := by have := HLC.out; have := HTN.out; omega
                          clear z0 z1 hw9 hb9 cI cJ hB hC hH w1 w2 w3 w4 w5
                          generalize 2 * (i : Int) + (p : Int) / 2 = ea at *
                          generalize 2 * (j : Int) + (p : Int) % 2 = eb at *
                          have HSB := Lib.hid hbs
                          have HSC := Lib.hid hcs
                          clear hbs hcs
                          rcases (show dv = 4 ∨ dv = 6 ∨ dv = 1 ∨ dv = 3 ∨ dv = 2 ∨ dv = 5 ∨ dv = 0 ∨ dv = 7 by omega) with rfl | rfl | rfl | rfl | rfl | rfl | rfl | rfl
                          · go_wp2_with (at_builtin; refine wp_bnd hB9 rfl (.tmp 149) (.tmp 153) rfl rfl 68 rfl (by simp) ⟨eb, ea, -1⟩ hl1 ?_; intro v1 w1 hB1 hg1)
                            have NB := Lib.hid (show Bf w2 w1 v1 (allB n (l.take k) ++ rlB ⟨(i : Int), (j : Int), (s : Int)⟩ (p + 1)) by rw [HSB.out, ← List.append_assoc]; exact hB1)
                            have NC := Lib.hid (show Cf w2 w1 _ (allC (l.take k) ++ rlC ⟨(i : Int), (j : Int), (s : Int)⟩ (p + 1)) by rw [HSC.out]; simpa [emY] using hC9.far hB9.1 (by decide) (by decide) hg1 hB1.2)
                            have NH := Lib.hid (show w1.heap[RC]? = some (.cells #[.int .i64 (i : Int), .int .i64 (j : Int), .int .i64 (s : Int)] 30 (0, 0)) ∧ DR w1 D (dTo (singF s)) from ⟨heap_far hB9.1 hg1 hR9 (by decide), heap_far hB9.1 hg1 hD9 (by decide)⟩)
                            clear hB1 hg1 hB9 hC9 hR9 hD9
                            go_roundw
                            case rel => exact ⟨p + 1, by omega, by go_num, NB, NC, NH⟩
                            case measure => simp [RowKit.intOf]; omega
                          · go_wp2_with (at_builtin; refine wp_bnd hB9 rfl (.tmp 157) (.tmp 161) rfl rfl 68 rfl (by simp) ⟨eb, ea, 0⟩ hl1 ?_; intro v1 w1 hB1 hg1)
                            have NB := Lib.hid (show Bf w2 w1 v1 (allB n (l.take k) ++ rlB ⟨(i : Int), (j : Int), (s : Int)⟩ (p + 1)) by rw [HSB.out, ← List.append_assoc]; exact hB1)
                            have NC := Lib.hid (show Cf w2 w1 _ (allC (l.take k) ++ rlC ⟨(i : Int), (j : Int), (s : Int)⟩ (p + 1)) by rw [HSC.out]; simpa [emY] using hC9.far hB9.1 (by decide) (by decide) hg1 hB1.2)
                            have NH := Lib.hid (show w1.heap[RC]? = some (.cells #[.int .i64 (i : Int), .int .i64 (j : Int), .int .i64 (s : Int)] 30 (0, 0)) ∧ DR w1 D (dTo (singF s)) from ⟨heap_far hB9.1 hg1 hR9 (by decide), heap_far hB9.1 hg1 hD9 (by decide)⟩)
                            clear hB1 hg1 hB9 hC9 hR9 hD9
                            go_roundw
                            case rel => exact ⟨p + 1, by omega, by go_num, NB, NC, NH⟩
                            case measure => simp [RowKit.intOf]; omega
                          · go_wp2_with (at_builtin; refine wp_bnd hB9 rfl (.tmp 165) (.tmp 169) rfl rfl 68 rfl (by simp) ⟨ea, eb, -1⟩ hl1 ?_; intro v1 w1 hB1 hg1)
                            have NB := Lib.hid (show Bf w2 w1 v1 (allB n (l.take k) ++ rlB ⟨(i : Int), (j : Int), (s : Int)⟩ (p + 1)) by rw [HSB.out, ← List.append_assoc]; exact hB1)
                            have NC := Lib.hid (show Cf w2 w1 _ (allC (l.take k) ++ rlC ⟨(i : Int), (j : Int), (s : Int)⟩ (p + 1)) by rw [HSC.out]; simpa [emY] using hC9.far hB9.1 (by decide) (by decide) hg1 hB1.2)
                            have NH := Lib.hid (show w1.heap[RC]? = some (.cells #[.int .i64 (i : Int), .int .i64 (j : Int), .int .i64 (s : Int)] 30 (0, 0)) ∧ DR w1 D (dTo (singF s)) from ⟨heap_far hB9.1 hg1 hR9 (by decide), heap_far hB9.1 hg1 hD9 (by decide)⟩)
                            clear hB1 hg1 hB9 hC9 hR9 hD9
                            go_roundw
                            case rel => exact ⟨p + 1, by omega, by go_num, NB, NC, NH⟩
                            case measure => simp [RowKit.intOf]; omega
                          · go_wp2_with (at_builtin; refine wp_bnd hB9 rfl (.tmp 173) (.tmp 177) rfl rfl 68 rfl (by simp) ⟨ea, eb, 0⟩ hl1 ?_; intro v1 w1 hB1 hg1)
                            have NB := Lib.hid (show Bf w2 w1 v1 (allB n (l.take k) ++ rlB ⟨(i : Int), (j : Int), (s : Int)⟩ (p + 1)) by rw [HSB.out, ← List.append_assoc]; exact hB1)
                            have NC := Lib.hid (show Cf w2 w1 _ (allC (l.take k) ++ rlC ⟨(i : Int), (j : Int), (s : Int)⟩ (p + 1)) by rw [HSC.out]; simpa [emY] using hC9.far hB9.1 (by decide) (by decide) hg1 hB1.2)
                            have NH := Lib.hid (show w1.heap[RC]? = some (.cells #[.int .i64 (i : Int), .int .i64 (j : Int), .int .i64 (s : Int)] 30 (0, 0)) ∧ DR w1 D (dTo (singF s)) from ⟨heap_far hB9.1 hg1 hR9 (by decide), heap_far hB9.1 hg1 hD9 (by decide)⟩)
                            clear hB1 hg1 hB9 hC9 hR9 hD9
                            go_roundw
                            case rel => exact ⟨p + 1, by omega, by go_num, NB, NC, NH⟩
                            case measure => simp [RowKit.intOf]; omega
                          · go_wp2_with (at_builtin; refine wp_bnd2 hB9 rfl (.tmp 181) (.tmp 188) rfl rfl 68 rfl (by simp) ⟨eb, ea, 0⟩ ⟨ea, eb, 0⟩ hl1 ?_; intro v1 w1 hB1 hg1)
                            have NB := Lib.hid (show Bf w2 w1 v1 (allB n (l.take k) ++ rlB ⟨(i : Int), (j : Int), (s : Int)⟩ (p + 1)) by rw [HSB.out, ← List.append_assoc]; exact hB1)
                            have NC := Lib.hid (show Cf w2 w1 _ (allC (l.take k) ++ rlC ⟨(i : Int), (j : Int), (s : Int)⟩ (p + 1)) by rw [HSC.out]; simpa [emY] using hC9.far hB9.1 (by decide) (by decide) hg1 hB1.2)
                            have NH := Lib.hid (show w1.heap[RC]? = some (.cells #[.int .i64 (i : Int), .int .i64 (j : Int), .int .i64 (s : Int)] 30 (0, 0)) ∧ DR w1 D (dTo (singF s)) from ⟨heap_far hB9.1 hg1 hR9 (by decide), heap_far hB9.1 hg1 hD9 (by decide)⟩)
                            clear hB1 hg1 hB9 hC9 hR9 hD9
                            go_roundw
                            case rel => exact ⟨p + 1, by omega, by go_num, NB, NC, NH⟩
                            case measure => simp [RowKit.intOf]; omega
                          · have hC9' := hC9
                            obtain ⟨cs, _, hown, _, _⟩ := hC9'
                            go_wp2_with (at_builtin; refine wp_chc hC9 rfl (.tmp 192) (.tmp 199) rfl rfl 71 rfl (by simp) ea eb hl2 ?_; intro v1 w1 hC1 hg1)
                            have hbw1 : Below w2.heap.size w2 w1 := by
                              obtain ⟨_, _, _, h, _⟩ := hC1
                              exact h
                            have NC := Lib.hid (show Cf w2 w1 v1 (allC (l.take k) ++ rlC ⟨(i : Int), (j : Int), (s : Int)⟩ (p + 1)) by rw [HSC.out, ← List.append_assoc]; exact hC1)
                            have NB := Lib.hid (show Bf w2 w1 _ (allB n (l.take k) ++ rlB ⟨(i : Int), (j : Int), (s : Int)⟩ (p + 1)) by rw [HSB.out]; simpa [emX] using hB9.far hown (by decide) hg1 hbw1)
                            have NH := Lib.hid (show w1.heap[RC]? = some (.cells #[.int .i64 (i : Int), .int .i64 (j : Int), .int .i64 (s : Int)] 30 (0, 0)) ∧ DR w1 D (dTo (singF s)) from ⟨heap_far hown hg1 hR9 (by decide), heap_far hown hg1 hD9 (by decide)⟩)
                            clear hC1 hg1 hB9 hC9 hR9 hD9 hown hbw1
                            go_roundw
                            case rel => exact ⟨p + 1, by omega, by go_num, NB, NC, NH⟩
                            case measure => simp [RowKit.intOf]; omega
                          · have NB := Lib.hid (show Bf w2 w9 _ (allB n (l.take k) ++ rlB ⟨(i : Int), (j : Int), (s : Int)⟩ (p + 1)) by rw [HSB.out]; simpa [emX] using hB9)
                            have NC := Lib.hid (show Cf w2 w9 _ (allC (l.take k) ++ rlC ⟨(i : Int), (j : Int), (s : Int)⟩ (p + 1)) by rw [HSC.out]; simpa [emY] using hC9)
                            have NH := Lib.hid (show w9.heap[RC]? = some (.cells #[.int .i64 (i : Int), .int .i64 (j : Int), .int .i64 (s : Int)] 30 (0, 0)) ∧ DR w9 D (dTo (singF s)) from ⟨hR9, hD9⟩)
                            clear hB9 hC9 hR9 hD9
                            go_wp2
                            go_roundw
                            case rel => exact ⟨p + 1, by omega, by go_num, NB, NC, NH⟩
                            case measure => simp [RowKit.intOf]; omega
                          · have NB := Lib.hid (show Bf w2 w9 _ (allB n (l.take k) ++ rlB ⟨(i : Int), (j : Int), (s : Int)⟩ (p + 1)) by rw [HSB.out]; simpa [emX] using hB9)
                            have NC := Lib.hid (show Cf w2 w9 _ (allC (l.take k) ++ rlC ⟨(i : Int), (j : Int), (s : Int)⟩ (p + 1)) by rw [HSC.out]; simpa [emY] using hC9)
                            have NH := Lib.hid (show w9.heap[RC]? = some (.cells #[.int .i64 (i : Int), .int .i64 (j : Int), .int .i64 (s : Int)] 30 (0, 0)) ∧ DR w9 D (dTo (singF s)) from ⟨hR9, hD9⟩)
                            clear hB9 hC9 hR9 hD9
                            go_wp2
                            go_roundw
                            case rel => exact ⟨p + 1, by omega, by go_num, NB, NC, NH⟩
                            case measure => simp [RowKit.intOf]; omega
                        · have hp4e : p = 4 := by omega
                          have HBN := Lib.hid (show Bf w2 wr _ (allB n (l.take (k + 1))) by rw [HTL.out, allB_snoc]; have h := hB.out; rw [hp4e] at h; exact h)
                          have HCN := Lib.hid (show Cf w2 wr _ (allC (l.take (k + 1))) by rw [HTL.out, allC_snoc]; have h := hC.out; rw [hp4e] at h; exact h)
                          have HEN := Lib.hid (show ((l.take (k + 1)).any fun r => !expr r) = false by rw [HTL.out, List.any_append, hE.out]; simp [HEX.out])
                          clear hB hC hH hp4e
                          go_wp2
                          go_roundw
                          case rel => exact ⟨k + 1, by omega, by go_num, HBN, HCN, HEN⟩
                          case measure => simp [RowKit.intOf]; omega
            · have hkqe : k = q := by omega
              have h9 : l.take k = l := by rw [hkqe, HQ.out]; exact List.take_length
              have HFB := Lib.hid (show Bf w2 wr _ (allB n l) by have := hB.out; rwa [h9] at this)
              have HFC := Lib.hid (show Cf w2 wr _ (allC l) by have := hC.out; rwa [h9] at this)
              have HFE := Lib.hid (show (l.any fun r => !expr r) = false by have := hE.out; rwa [h9] at this)
              clear hB hC hE h9 hkqe
              go_wp2
              refine bodyPost_ret (by simp [results, Try.results39, go_sem]; try rfl) rfl ?_
              exact ⟨HFB.out.2, Or.inr (Or.inr ⟨HZ.out, HFE.out, _, _, rfl, HFB.out, HFC.out⟩)⟩
end Go.Proofs.Ytoadihclmnjjnaa.Nw
