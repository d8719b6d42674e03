/-
  Networks, the reference: Solve, Consistent (layer 46).
-/
import Derived.Test.YtoadihclmnjjnaaNxD
import Derived.Test.YtoadihclmnjjnaaNwS
import Derived.Test.YtoadihclmnjjnaaNwQ
set_option linter.unusedSimpArgs false
set_option linter.unusedVariables false
set_option maxRecDepth 100000
namespace Go.Proofs.Ytoadihclmnjjnaa.Nw
open Go Go.RowKit Go.ChangeShapes Go.WideShapes Go.Proofs.Ytoadihclmnjjnaa.Sl Go.Proofs.Ytoadihclmnjjnaa.Al Go.Lib

theorem RcE.flat2 {n : Nat} {M : Mt} {w w' : World} {e : Ending} (h : RcE n M w e w') : ∃ (a : Option Addr) (m c : Nat) (b : Bool), e = .returned (.tuple #[.slice a m c, .bool b]) ∧ Below w.heap.size w w' ∧
    ∃ X, ClR n M X b ∧ (b = true → m = n ∧ ∃ B R, a = some ⟨B, 0, none⟩ ∧ Mx w' B R n X) := by
  obtain ⟨hb, ok, X, hX, hT, hF⟩ := h
  cases ok
  · exact ⟨none, 0, 0, false, hF rfl, hb, X, hX, nofun⟩
  · obtain ⟨B, R, he, hM, _⟩ := hT rfl
    exact ⟨_, _, _, _, he, hb, X, hX, fun _ => ⟨rfl, B, R, rfl, hM⟩⟩
/-- One bit alone: x & (x - 1) is zero. -/
theorem one_all : ((List.range 8192).all fun m => ((m &&& (m - 1)) == 0) == (m == 0 || m == 2 ^ m.log2)) = true := by kernel_rfl
theorem one_test (m : Nat) (hm : m < 8192) (h0 : m ≠ 0) : ((bits .and .i64 (m : Int) ((m : Int) - 1) == 0) = true ↔ One m) := by
  have h1 : ((m : Int) - 1) = ((m - 1 : Nat) : Int) := by omega
  have h2 := Bt.bits_and m (m - 1) (by omega) (by omega)
  rw [h1, h2]
  have h3 := List.all_eq_true.1 one_all m (List.mem_range.2 hm)
  have h4 : ((m &&& (m - 1)) = 0) ↔ (m = 0 ∨ m = 2 ^ m.log2) := by
    have := beq_iff_eq.1 h3
    rw [Bool.eq_iff_iff] at this
    simpa using this
  constructor
  · intro h
    have h5 : m &&& (m - 1) = 0 := by
      have := beq_iff_eq.1 h
      omega
    rcases h4.1 h5 with h6 | h6
    · exact (h0 h6).elim
    · refine ⟨m.log2, ?_, h6⟩
      have : m.log2 < 13 := (Nat.log2_lt h0).2 hm
      exact this
  · rintro ⟨r, hr, rfl⟩
    have h5 : 2 ^ r &&& (2 ^ r - 1) = 0 := h4.2 (Or.inr (by rw [Nat.log2_two_pow]))
    rw [h5]; rfl
theorem up_step {i j n : Nat} {X : Mt} (h : ∀ b, i < b → b < j → One (X i b)) (h1 : One (X i j)) : ∀ b, i < b → b < j + 1 → One (X i b) := fun b hb hb2 => by
  by_cases e : b = j
  · subst e; exact h1
  · exact h b hb (by omega)
theorem up_row {i n : Nat} {X : Mt} (h : ∀ a b, a < i → a < b → b < n → One (X a b)) (h1 : ∀ b, i < b → b < n → One (X i b)) : ∀ a b, a < i + 1 → a < b → b < n → One (X a b) := fun a b ha hb hbn => by
  by_cases e : a = i
  · subst e; exact h1 b hb hbn
  · exact h a b (by omega) hb hbn
/-- What Solve leaves behind. -/
def RsE (n : Nat) (M : Mt) (w : World) (e : Ending) (w' : World) : Prop := ∃ ok v, e = .returned (.tuple #[v, .bool ok]) ∧ Below w.heap.size w w' ∧ (ok = true → ∃ X, Sc n X ∧ LeM n X M) ∧ (ok = false → ∀ N, Sc n N → ¬ LeM n N M)

set_option maxHeartbeats 8000000 in
theorem rsolve_any : ∀ (d : Nat) (tv : Value) (B c n : Nat) (R : Nat → Nat) (M : Mt) (w : World), mu n M < d → 0 < n → n ≤ 1000000 → Tb w tv → Mx w B R n M → BdM n M → SyM n M → DgM n M →
    Calls Try.prog 57 #[tv, .slice (some ⟨B, 0, none⟩) n c] w (RsE n M w) := by
  intro d
  induction d with
  | zero => intro tv B c n R M w h; omega
  | succ d ih =>
    intro tv B c n R M w hmu hn hn2 hT hM hb hs hd
    have HMU := Lib.hid hmu
    have HCL := rclose_any tv B c n R M w hn hn2 hT hM hb
    have HS := Lib.hid hs
    have HDG := Lib.hid hd
    have HBD := Lib.hid hb
    have HI := Lib.hid ih
    have HT := Lib.hid hT
    have HMK := fun W => mk_rows n hn2 W
    clear hM hb hs hd hmu ih hT
    go_enter Try.func57, Try.ntmps57
    go_upto_region 2 with (go_at_call 20; (with_reducible refine HCL.mono ?_); intro e w1 hco; obtain ⟨a1, m1, c1, b1, rfl, hb1, X, hX, hXT⟩ := hco.flat2; clear hco; have HX := Lib.hid hX; have HXT := Lib.hid hXT; clear hX hXT)
    cases b1
    · clear HXT
      go_wp2
      go_ret2
      refine ⟨false, _, rfl, hb1, nofun, fun _ N hN hle => ?_⟩
      exact (show ∀ N, ClM n N → LeM n N M → ¬ NzM n N from HX.out) N hN.2.1 hle hN.nz
    · obtain ⟨rfl, B1, R1, rfl, hXX⟩ := HXT.out rfl
      obtain ⟨hG, hcx, hz⟩ := (show GI m1 M X ∧ ClM m1 X ∧ NzM m1 X from HX.out)
      have hsx := sym_of_gi hG hcx HS.out HBD.out
      have hdx := dg_of_le hG.1 HDG.out
      have hbx := hG.bd HBD.out
      have HG := Lib.hid hG
      have HCX := Lib.hid hcx
      have HZ := Lib.hid hz
      have HSX := Lib.hid hsx
      have HDX := Lib.hid hdx
      have HBX := Lib.hid hbx
      have HXX := Lib.hid hXX
      have HT1 := Lib.hid (HT.out.below hb1)
      clear hG hcx hz hsx hdx hbx HX HXT HCL HT hXX
      go_wp2
      go_loopw [8] (fun iv wi => ∃ i, i ≤ m1 ∧ iv = .int .i64 (i : Int) ∧ Hid (∀ a b, a < i → a < b → b < m1 → One (X a b)) ∧ Below w1.heap.size w1 wi) (fun iv _ => m1 - (RowKit.intOf iv).toNat)
      case atStart => exact ⟨0, Nat.zero_le _, rfl, Lib.hid (fun a b ha => by omega), Below.refl _ _⟩
      case round =>
        obtain ⟨i, hi, rfl, hup, hL1⟩ := hrel
        by_cases hin : i < m1
        · have hi0 : (0 : Int) ≤ (i : Int) := by omega
          have hi1 : (i : Int) < (m1 : Int) := by omega
          go_wp2
          go_loopw [9] (fun jv wj => ∃ j, i + 1 ≤ j ∧ j ≤ m1 ∧ jv = .int .i64 (j : Int) ∧ Hid (∀ b, i < b → b < j → One (X i b)) ∧ Below w1.heap.size w1 wj) (fun jv _ => m1 - (RowKit.intOf jv).toNat)
          case atStart => exact ⟨i + 1, Nat.le_refl _, by omega, by go_num, Lib.hid (fun b hb hb2 => by omega), hL1⟩
          case round =>
            obtain ⟨j, hij, hj, rfl, huj, hL2⟩ := hrel
            by_cases hjn : j < m1
            · have hj0 : (0 : Int) ≤ (j : Int) := by omega
              have hj1 : (j : Int) < (m1 : Int) := by omega
              have hX2 := HXX.out.below hL2
              obtain ⟨ci, hci, x1⟩ := hX2.cap hin
              have x2 := hX2.cell hin hjn
              have hlt := HBX.out i j hin hjn
              have hnz := HZ.out i j hin hjn
              have hone := one_test (X i j) hlt hnz
              have hw1 : IntKind.i64.wrap (((X i j : Nat) : Int) - 1) = ((X i j : Nat) : Int) - 1 := IntWalk.i64_in _ (by omega)
              have HONE := Lib.hid hone
              clear hX2 hone
              go_upto_region 10 with fail
              have y1 := cell_regrown x1
              have y2 := cell_regrown x2
              refine wp_region_quiet_below (by kernel_rfl) (by kernel_rfl) ?_
              repeat (go_big_quiet_step (fail))
              refine wpQuiet_nil ?_
              intro w2 hw9
              obtain ⟨⟨dq, osq⟩, hw9⟩ := hw9
              have hL2' : Below w1.heap.size w1 w2 := by rw [hw9]; exact bstep hL2 (below_regrown _ dq osq)
              clear x1 x2 y1 y2 hw9 hL2
              have hL2 := hL2'
              clear hL2'
              cases ht : (bits .and .i64 ((X i j : Nat) : Int) (((X i j : Nat) : Int) - 1) == 0)
              · have hno : ¬ One (X i j) := fun h => by rw [HONE.out.2 h] at ht; cases ht
                have HNO := Lib.hid hno
                clear hno HONE
                go_wp2
                clear ht hw1
                go_loopw [10] (fun rv wq => ∃ r : Nat, r ≤ 13 ∧ rv = .int .i64 (r : Int) ∧ Hid (∀ q, q < r → (X i j).testBit q = true → ∀ N, Sc m1 N → ¬ LeM m1 N (pick X i j q)) ∧ Below w1.heap.size w1 wq) (fun rv _ => 13 - (RowKit.intOf rv).toNat)
                case atStart => exact ⟨0, Nat.zero_le _, rfl, Lib.hid (fun q hq => by omega), by first | exact hL2 | exact hL2.drew⟩
                case round =>
                  obtain ⟨r, hr, rfl, htr, hL3⟩ := hrel
                  by_cases hr13 : r < 13
                  · have r0 : (0 : Int) ≤ (r : Int) := by omega
                    have r1 : (r : Int) < 13 := by omega
                    have hX3 := HXX.out.below hL3
                    obtain ⟨ci, hci, x1⟩ := hX3.cap hin
                    have x2 := hX3.cell hin hjn
                    have t1 := bit_test0 (X i j) r (by omega)
                    clear hX3
                    cases hbit : (X i j).testBit r
                    · rw [hbit] at t1
                      have HBIT := Lib.hid hbit
                      clear hbit
                      go_wp2
                      go_roundw
                      case rel => exact ⟨r + 1, by omega, by go_num, Lib.hid (fun q hq hx => by
                        by_cases e : q = r
                        · subst e; rw [HBIT.out] at hx; cases hx
                        · exact htr.out q (by omega) hx), by first | exact hL3 | exact hL3.drew⟩
                      case measure => simp [RowKit.intOf]; omega
                    · rw [hbit] at t1
                      have HBIT := Lib.hid hbit
                      clear hbit
                      obtain ⟨wz, rfl⟩ : ∃ x, x = wr := ⟨wr, rfl⟩
                      have HL3 := Lib.hid hL3
                      clear hL3
                      go_upto_region 15 with fail
                      clear x1 x2 t1
                      go_wp2
                      go_loopw [12] (fun kv wq => ∃ k R', k ≤ m1 ∧ kv = .int .i64 (k : Int) ∧ Px wq wz.heap.size R' m1 k X ∧ (∀ i, i < k → wz.heap.size < R' i) ∧ Below wz.heap.size wz wq ∧ wz.heap.size < wq.heap.size) (fun kv _ => m1 - (RowKit.intOf kv).toNat)
                      case atStart => exact ⟨0, fun _ => 0, Nat.zero_le _, rfl, Px.start wz m1 _ _ X _, fun i hi => by omega, by go_grown, by simp⟩
                      case round =>
                        obtain ⟨k, R', hk, rfl, hP, hR, hL, hsz⟩ := hrel
                        by_cases hkn : k < m1
                        · have hk0 : (0 : Int) ≤ (k : Int) := by omega
                          have hk1 : (k : Int) < (m1 : Int) := by omega
                          have hM := HXX.out.below (bstep HL3.out hL)
                          obtain ⟨ck, hck, c1⟩ := hM.cap hkn
                          have HR := Lib.hid (hM.row k hkn)
                          have hBl := block_of_cell c1
                          have HP := Lib.hid hP
                          clear hM hP
                          go_wp2_with (at_builtin; go_must (refine wp_copyrow HR.out hn hn2 rfl (.tmp 81) (.tmp 85) rfl rfl rfl ?_); intro q cap w1 hq hcap hrw hb1; have hP1 := HP.out.below hb1; obtain ⟨u0, x0⟩ := hP1.any hkn; have f0 := hP1.frozen k; have HP1 := Lib.hid hP1; have HRW := Lib.hid hrw; have hlt := hP1.ltB; clear hP1 hrw)
                          go_roundw
                          case rel =>
                            refine ⟨k + 1, (fun j => if j = k then q else R' j), by omega, by go_num, HP1.out.put hkn HRW.out (by omega) (fun j hj e => ?_) hcap, fun j hj => ?_, (bstep hL hb1).setCell (Nat.le_refl _) _, by simpa [World.setCell] using hlt⟩
                            · have := HP.out.ltR hj; omega
                            · by_cases e : j = k
                              · simp only [e, if_true]; omega
                              · simp only [e, if_false]; exact hR j (by omega)
                          case measure => simp [RowKit.intOf]; omega
                        · obtain rfl : k = m1 := by omega
                          have hX5 := hP.mx
                          generalize hB' : wz.heap.size = B' at *
                          obtain ⟨ci2, hci2, d1⟩ := hX5.cap hin
                          obtain ⟨cj2, hcj2, d2⟩ := hX5.cap hjn
                          have e1 := hX5.cell hin hjn
                          have e2 := hX5.cell hjn hin
                          have f1 := (hX5.row i hin).frozen j
                          have f2 := (hX5.row j hjn).frozen i
                          have n1 : ¬ R' j = R' i := fun e => by have := hX5.inj j i hjn hin e; omega
                          have n2 : ¬ B' = R' i := fun e => hX5.off i hin e.symm
                          have n3 : ¬ B' = R' j := fun e => hX5.off j hjn e.symm
                          have hw12 : IntKind.i64.wrap (12 - (r : Int)) = 12 - (r : Int) := IntWalk.i64_in _ (by omega)
                          have hp1 := wrap_pw r (by omega)
                          have hp2 := wrap_pw (12 - r) (by omega)
                          have r2 : (0 : Int) ≤ 12 - (r : Int) := by omega
                          have r3 : 12 - (r : Int) < 13 := by omega
                          have HX5 := Lib.hid hX5
                          have HRR := Lib.hid hR
                          have HL5 := Lib.hid hL
                          clear hX5 hP hR hL
                          go_upto_region 22 with fail
                          have hMX : Mx ((wr.setCell ⟨R' i, j, none⟩ (.int .i64 ((pw r : Nat) : Int))).setCell ⟨R' j, i, none⟩ (.int .i64 ((pw (12 - r) : Nat) : Int))) B' R' k (pick X i j r) := (HX5.out.set hin hjn (2 ^ r)).set hjn hin (2 ^ (12 - r))
                          have hBW : Below wz.heap.size wz ((wr.setCell ⟨R' i, j, none⟩ (.int .i64 ((pw r : Nat) : Int))).setCell ⟨R' j, i, none⟩ (.int .i64 ((pw (12 - r) : Nat) : Int))) := by
                            rw [hB']
                            exact (HL5.out.setCell (p := ⟨R' i, j, none⟩) (Nat.le_of_lt (HRR.out i hin)) _).setCell (p := ⟨R' j, i, none⟩) (Nat.le_of_lt (HRR.out j hjn)) _
                          generalize (wr.setCell ⟨R' i, j, none⟩ (.int .i64 ((pw r : Nat) : Int))).setCell ⟨R' j, i, none⟩ (.int .i64 ((pw (12 - r) : Nat) : Int)) = W5 at hMX hBW ⊢
                          have hmu2 : mu k (pick X i j r) < d := by
                            have a1 := pick_mu (n := k) HSX.out hin hjn (by omega) hr13 HBIT.out HNO.out
                            have a2 := mu_le HG.out.1
                            have a3 := HMU.out
                            omega
                          have hple := pick_le (n := k) HSX.out hin hjn hr13 HBIT.out
                          have hBL := bstep HL3.out hBW
                          have HSV := fun c' => HI.out tv B' c' k R' (pick X i j r) W5 hmu2 hn hn2 (HT1.out.below hBL) hMX (fun a b ha hb => (hple a b ha hb).lt (HBX.out a b ha hb)) (pick_sym HSX.out (by omega) hr13) (dg_of_le hple HDX.out)
                          have HPL := Lib.hid hple
                          have HBL := Lib.hid hBL
                          clear d1 d2 e1 e2 f1 f2 hMX hBW hmu2 hple hw12 hp1 hp2 hBL
                          go_wp2_with (go_at_call 57; (with_reducible refine (HSV _).mono ?_); rintro e w6 ⟨ok, v, rfl, hb6, hyes, hno⟩; have HYES := Lib.hid hyes; have HN6 := Lib.hid hno; clear hyes hno; cases ok)
                          · go_roundw
                            case rel => exact ⟨r + 1, by omega, by go_num, Lib.hid (fun q hq hx => by
                              by_cases e : q = r
                              · subst e; exact HN6.out trivial
                              · exact htr.out q (by omega) hx), bstep HBL.out hb6⟩
                            case measure => simp [RowKit.intOf]; omega
                          · obtain ⟨X7, h8, h9⟩ := HYES.out trivial
                            go_ret2
                            exact ⟨true, _, rfl, bstep hb1 (bstep HBL.out hb6), (fun _ => ⟨X7, h8, (h9.trans HPL.out).trans HG.out.1⟩), nofun⟩
                  · obtain rfl : r = 13 := by omega
                    go_wp2
                    go_ret2
                    refine ⟨false, _, rfl, bstep hb1 hL3, nofun, fun _ N hN hle => ?_⟩
                    obtain ⟨r, hr, hbit, hle2⟩ := sc_pick hN (HG.out.2 N hN.2.1 hle) hin hjn
                    exact htr.out r hr hbit N hN hle2
              · have hyes : One (X i j) := HONE.out.1 ht
                have HYES := Lib.hid hyes
                clear hyes HONE
                go_wp2
                go_roundw
                case rel => exact ⟨j + 1, by omega, by omega, by go_num, Lib.hid (up_step (n := m1) huj.out HYES.out), by first | exact hL2 | exact hL2.drew⟩
                case measure => simp [RowKit.intOf]; omega
            · obtain rfl : j = m1 := by omega
              go_wp2
              go_roundw
              case rel => exact ⟨i + 1, by omega, by go_num, Lib.hid (up_row hup.out huj.out), hL2⟩
              case measure => simp [RowKit.intOf]; omega
        · obtain rfl : i = m1 := by omega
          go_wp2
          go_ret2
          exact ⟨true, _, rfl, bstep hb1 hL1, (fun _ => ⟨X, sc_of_up HG.out HCX.out HZ.out HS.out HDG.out HBD.out (fun a b ha hab hb => hup.out a b ha hab hb)⟩), nofun⟩
/-- What the reference's Consistent returns. -/
def RnE (P : Prop) (w : World) (e : Ending) (w' : World) : Prop := ∃ b, e = .returned (.bool b) ∧ (b = true ↔ P) ∧ Below w.heap.size w w'
set_option maxHeartbeats 4000000 in
theorem rconsistent_any (n : Nat) (l : List Rl) (ad : Option Addr) (m cl : Nat) (w : World) (hn : 0 < n) (hn8 : n ≤ 8) (hm : m = l.length) (hs : Rs w (.slice ad m cl) l) (hm6 : m ≤ 1000000) (hok : ∀ r ∈ l, OkR n r) :
    Calls Try.prog 16 #[.int .i64 (n : Int), .slice ad m cl] w (RnE (SatL n l) w) := by
  have HM := fun W (h : Below w.heap.size w W) => rmatrix_start n l ad m cl W hn hn8 hm (hs.below h) hm6 hok
  have hbd : BdM n (rMat l) := by rw [rMat_eq]; exact bd_matN n l
  have hsy : SyM n (rMat l) := by rw [rMat_eq]; exact sym_matN l hok
  have hdg : DgM n (rMat l) := by rw [rMat_eq]; exact dg_matN n l
  have HSV := fun (tv : Value) (B c : Nat) (R : Nat → Nat) (W : World) (h1 : Tb W tv) (h2 : Mx W B R n (rMat l)) => rsolve_any (mu n (rMat l) + 1) tv B c n R (rMat l) W (Nat.lt_succ_self _) hn (by omega) h1 h2 hbd hsy hdg
  have key : ∀ ok : Bool, (ok = true → ∃ X, Sc n X ∧ LeM n X (rMat l)) → (ok = false → ∀ N, Sc n N → ¬ LeM n N (rMat l)) → (ok = true ↔ SatL n l) := by
    intro ok h1 h2
    rw [← sat_iff hok, ← rMat_eq]
    cases ok
    · exact ⟨nofun, fun ⟨N, h3, h4⟩ => (h2 rfl N h3 h4).elim⟩
    · exact ⟨fun _ => h1 rfl, fun _ => rfl⟩
  have HK := Lib.hid key
  clear hs hm hok hbd hsy hdg key
  go_enter Try.func16, Try.ntmps16
  go_wp2_with (first | (go_at_call 21; (with_reducible refine (table_any _).mono ?_); rintro e w6 ⟨tv, rfl, hTb, hb6⟩) | (go_at_call 22; (with_reducible refine (HM _ (by assumption)).mono ?_); rintro e w7 ⟨B7, R7, rfl, hM7, _, _, hb7⟩; replace hTb := hTb.below hb7; replace hb7 := bstep hb6 hb7) | (go_at_call 57; (with_reducible refine (HSV _ _ _ _ _ hTb hM7).mono ?_); rintro e w8 ⟨ok, v, rfl, hb8, hyes, hno⟩; have HYES := Lib.hid hyes; have HNO := Lib.hid hno; clear hyes hno; replace hb8 := bstep hb7 hb8))
  go_ret
  exact ⟨ok, rfl, HK.out ok HYES.out HNO.out, hb8⟩
end Go.Proofs.Ytoadihclmnjjnaa.Nw
