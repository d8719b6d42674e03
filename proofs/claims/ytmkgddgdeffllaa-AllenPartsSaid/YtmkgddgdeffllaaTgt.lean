/-
  The walk of AllenTight: what the law's own loops find is what the table holds.
-/
import Derived.Test.YtmkgddgdeffllaaAwk
set_option linter.unusedSimpArgs false
set_option linter.unusedVariables false
namespace Go.Proofs.Ytmkgddgdeffllaa.Al
open Go Go.RowKit Go.Proofs.Ytmkgddgdeffllaa.Bt Go.Proofs.Ytmkgddgdeffllaa.Sl
open Go.Proofs.Ytmkgddgdeffllaa.Iv (of_any valid_any ofZ validB lineB sgn_bd sgn_cases tab sgn)

/-- What n rounds find. -/
def FS (a b : Nat) : Nat → Nat
  | 0 => 0
  | n + 1 => if rl (n / 225) (n / 15 % 15) = a ∧ rl (n / 15 % 15) (n % 15) = b then FS a b n ||| 2 ^ rl (n / 225) (n % 15) else FS a b n
theorem rl_lt (i j : Nat) (hi : i < 15) (hj : j < 15) : rl i j < 13 := (rl_all i hi j hj).2
theorem FS_row (a b : Nat) (ha : a < 13) (hb : b < 13) : ∀ n ≤ 3375, FS a b n = rowP (TS n) (a * 13 + b) := by
  intro n
  induction n with
  | zero => intro _; simp [FS, TS, rowP]
  | succ n ih =>
    intro hn
    have i1 : n / 225 < 15 := by omega
    have i2 : n / 15 % 15 < 15 := by omega
    have i3 : n % 15 < 15 := by omega
    have l1 := rl_lt _ _ i1 i2
    have l2 := rl_lt _ _ i2 i3
    have l3 := rl_lt _ _ i1 i3
    unfold FS TS bitAt
    rw [ih (by omega)]
    split
    · rename_i h
      rw [h.1, h.2, rowP_same _ _ _ l3]
    · rename_i h
      rw [rowP_other _ _ _ _ l3 (by intro e; exact h (by omega))]
theorem FS_bas (a b : Nat) (ha : a < 13) (hb : b < 13) : FS a b 3375 = bas a b := FS_row a b ha hb 3375 (Nat.le_refl _)
theorem FS_lt (a b n : Nat) (hn : n ≤ 3375) (ha : a < 13) (hb : b < 13) : FS a b n < 8192 := by rw [FS_row a b ha hb n hn]; exact rowP_lt _ _
theorem FS_step (a b k j m : Nat) (hj : j < 15) (hm : m < 15) : FS a b (k * 225 + j * 15 + m + 1) = if rl k j = a ∧ rl j m = b then FS a b (k * 225 + j * 15 + m) ||| 2 ^ rl k m else FS a b (k * 225 + j * 15 + m) := by
  rw [FS, show (k * 225 + j * 15 + m) / 225 = k by omega, show (k * 225 + j * 15 + m) / 15 % 15 = j by omega, show (k * 225 + j * 15 + m) % 15 = m by omega]
theorem FS_skip (a b k j : Nat) (hj : j < 15) (h : rl k j ≠ a) : ∀ m ≤ 15, FS a b (k * 225 + j * 15 + m) = FS a b (k * 225 + j * 15) := by
  intro m
  induction m with
  | zero => intro _; rfl
  | succ m ih =>
    intro hm
    rw [show k * 225 + j * 15 + (m + 1) = k * 225 + j * 15 + m + 1 from rfl, FS_step a b k j m hj (by omega), if_neg (fun e => h e.1)]
    exact ih (by omega)
/-- The list's cells lie in block g. -/
def LI (w : World) (g : Nat) (W : World) : Prop := (∀ j u, (flat spL)[j]? = some u → W.cell? ⟨g, j, none⟩ = some u) ∧ Below w.heap.size w W
theorem LI.step {w W W' : World} {g : Nat} (h : LI w g W) (hb : Below W.heap.size W W') : LI w g W' := ⟨fun j u hu => Sl.cell_kept (h.1 j u hu) hb, Sl.bstep h.2 hb⟩

theorem basic_nat (a b : Nat) (ha : a < 13) (hb : b < 13) (w : World) : Calls Try.prog 13 #[.int .i64 (a : Int), .int .i64 (b : Int)] w fun e w' => e = .returned (.int .i64 ((bas a b : Nat) : Int)) ∧ Below w.heap.size w w' := by
  have h : basB (a : Int) (b : Int) = ((bas a b : Nat) : Int) := by unfold basB; rw [if_pos (by simp [inR]; omega)]; simp
  rw [← h]; exact basic_any _ _ _

set_option maxRecDepth 100000 in
set_option maxHeartbeats 4000000 in
theorem tight_nat (r q : Nat) (wr : r < 256) (wq : q < 256) (w : World) : Calls Try.prog 3 #[.int .u8 (r : Int), .int .u8 (q : Int)] w fun e w' => e = .returned (.bool true) ∧ Below w.heap.size w w' := by
  obtain ⟨i0, hi, hz0, hz1, hz2⟩ := info_parts info_span
  have er : (r : Int) % 13 = ((r % 13 : Nat) : Int) := by omega
  have eq : (q : Int) % 13 = ((q % 13 : Nat) : Int) := by omega
  have ha : r % 13 < 13 := Nat.mod_lt _ (by omega)
  have hb : q % 13 < 13 := Nat.mod_lt _ (by omega)
  go_enter Try.func3, Try.ntmps3
  go_wp2_with (go_at_call 11; (with_reducible refine (awake_any _).mono ?_); rintro e w1 ⟨rfl, hL0⟩)
  simp only [er, eq]
  clear er eq
  generalize r % 13 = a at *
  generalize q % 13 = b at *
  have hsz0 := hL0.size
  go_loopw [7, 26] (fun v i wr => ∃ k : Nat, k ≤ 5 ∧ i = .int .i64 k ∧ wr.ownsRow w.heap.size 25 2 v (spTo k (k + 1)).length (flat (spTo k (k + 1))) ∧ Below w.heap.size w wr) (fun _ i _ => 5 - (intOf i).toNat)
  case atStart => exact ⟨0, by omega, rfl, by rw [spTo_zero]; exact World.ownsRow_nil _ _ _ _, hL0⟩
  case round =>
    clear hL0 hsz0 w1
    obtain ⟨wo, rfl⟩ : ∃ wo : World, wo = wr := ⟨_, rfl⟩
    obtain ⟨k, hk, rfl, hown, hL⟩ := hrel
    by_cases hlt : k < 5
    · have h5 : decide ((k : Int) < 5) = true := by simp; omega
      go_wp2
      go_loopw [7, 9] (fun v t wr => ∃ j : Nat, k < j ∧ j ≤ 6 ∧ t = .int .i64 j ∧ wr.ownsRow w.heap.size 25 2 v (spTo k j).length (flat (spTo k j)) ∧ Below w.heap.size w wr) (fun _ t _ => 6 - (intOf t).toNat)
      case atStart => exact ⟨k + 1, by omega, by omega, by go_num, hown, hL⟩
      case round =>
        obtain ⟨j, hj, hj6, rfl, hown2, hL2⟩ := hrel
        have hlen := spTo_len k (by omega) j (by omega)
        by_cases hjl : j < 6
        · have hs := Lib.hid (spTo_step k hlt j hjl hj)
          go_wp2_with (at_builtin; go_must (refine wpList_app1 hL2 rfl (.tmp 35) (.tmp 39) 23 rfl 25 Try.underlying23 hi hz0 hz1 hz2 rfl (by decide) u7 (spTo k j).length (flat (spTo k j)) rfl [.int .i64 (k : Int), .int .i64 (j : Int)] 25 hown2 rfl (by simp) rfl (by intro u hu; simp at hu; rcases hu with rfl | rfl <;> rfl) (by unfold maxLen; omega) (by omega) ?_); intro g cap w1 hown1 hL1)
          go_roundw
          case rel =>
            have R : w1.ownsRow w.heap.size 25 2 (.slice (some ⟨g, 0, none⟩) ((spTo k j).length + 1) cap) (spTo k (j + 1)).length (flat (spTo k (j + 1))) := by
              rw [hs.out, flat_snoc, List.length_append]
              exact hown1
            exact ⟨j + 1, by omega, by omega, by go_num, R, hL1⟩
          case measure => simp [intOf]; omega
        · obtain rfl : j = 6 := by omega
          have hn := Lib.hid (spTo_next k hlt)
          go_wp2
          go_roundw
          case rel => exact ⟨k + 1, by omega, by go_num, by rw [← hn.out]; exact hown2, hL2⟩
          case measure => simp [intOf]; omega
    · obtain rfl : k = 5 := by omega
      have hSl := Sl.of_owns hown
      rw [show (spTo 5 (5 + 1)).length = 15 from spL_len] at hown hSl
      obtain ⟨g, cap, rfl⟩ : ∃ g cap, u7 = .slice (some ⟨g, 0, none⟩) 15 cap := ownsRow_succ hown
      have hLI : LI w g wo := ⟨fun j u hu => by
        obtain ⟨g2, off, cap2, hv2, hc2⟩ := hSl.open (by omega)
        simp only [Value.slice.injEq, Option.some.injEq, Addr.mk.injEq] at hv2
        obtain ⟨⟨rfl, rfl, _⟩, _⟩ := hv2
        have := hc2 j u hu
        simpa using this, hL⟩
      clear hown hSl hL
      have hlen : ∀ W : World, (Builtin.len_ #[23] 3 #[.slice (some ⟨g, 0, none⟩) 15 cap]).run Try.prog W = .ok (.int .i64 15) W := fun W => run_len_slice (P := Try.prog) (w := W) 23 3 (some ⟨g, 0, none⟩) 15 cap Try.underlying23
      have HL := Lib.hid hLI
      clear hLI
      go_wp2
      go_simp
      go_wp2
      go_loopw [10, 44] (fun f i wr => ∃ k : Nat, k ≤ 15 ∧ i = .int .i64 k ∧ f = .int .i64 ((FS a b (k * 225) : Nat) : Int) ∧ LI w g wr) (fun _ i _ => 15 - (intOf i).toNat)
      case atStart => exact ⟨0, by omega, rfl, rfl, HL.out⟩
      case round =>
        clear HL wo
        obtain ⟨wo, rfl⟩ : ∃ wo : World, wo = wr := ⟨_, rfl⟩
        obtain ⟨k, hk, rfl, rfl, hT⟩ := hrel
        by_cases hlt : k < 15
        · have h15 : decide ((k : Int) < 15) = true := by simp; omega
          have c0 : wo.cell? ⟨g, k * 2, none⟩ = some (.int .i64 (spA k)) := hT.1 _ _ (flat_get0 spL k (by rw [spL_len]; omega))
          have c1 : wo.cell? ⟨g, k * 2 + 1, none⟩ = some (.int .i64 (spB k)) := hT.1 _ _ (flat_get1 spL k (by rw [spL_len]; omega))
          have hg0 := block_of_cell c0
          have hB0 := hT.2.size
          go_wp2
          go_simp
          go_wp2
          go_loopw [10, 50] (fun f i wr => ∃ j : Nat, j ≤ 15 ∧ i = .int .i64 j ∧ f = .int .i64 ((FS a b (k * 225 + j * 15) : Nat) : Int) ∧ LI w g wr ∧ wr.cell? ⟨wo.heap.size, 0, none⟩ = some (.int .i64 (spA k)) ∧ wr.cell? ⟨wo.heap.size, 1, none⟩ = some (.int .i64 (spB k))) (fun _ i _ => 15 - (intOf i).toNat)
          case atStart => exact ⟨0, by omega, rfl, rfl, hT.step ((Below.refl _ _).alloc (Nat.le_refl _) _), by simp, by simp⟩
          case round =>
            obtain ⟨wp, rfl⟩ : ∃ wp : World, wp = wr := ⟨_, rfl⟩
            obtain ⟨j, hj, rfl, rfl, hT2, a0, a1⟩ := hrel
            by_cases hlj : j < 15
            · have j15 : decide ((j : Int) < 15) = true := by simp; omega
              have d0 : wp.cell? ⟨g, j * 2, none⟩ = some (.int .i64 (spA j)) := hT2.1 _ _ (flat_get0 spL j (by rw [spL_len]; omega))
              have d1 : wp.cell? ⟨g, j * 2 + 1, none⟩ = some (.int .i64 (spB j)) := hT2.1 _ _ (flat_get1 spL j (by rw [spL_len]; omega))
              have ng : g < wp.heap.size := block_of_cell d0
              have na : wo.heap.size < wp.heap.size := block_of_cell a0
              by_cases hra : rl k j = a
              · subst hra
                go_wp2_with (go_at_call 12; (with_reducible refine (of_sp k j hlt hlj _).mono ?_); rintro e w2 ⟨rfl, hb2⟩)
                have hq : Below wp.heap.size wp w2 := Sl.bstep (by go_grown) hb2
                have hT3 := hT2.step hq
                replace a0 := Sl.cell_kept a0 hq
                replace a1 := Sl.cell_kept a1 hq
                have b0 : w2.cell? ⟨wp.heap.size, 0, none⟩ = some (.int .i64 (spA j)) := Sl.cell_kept (by simp) hb2
                have b1 : w2.cell? ⟨wp.heap.size, 1, none⟩ = some (.int .i64 (spB j)) := Sl.cell_kept (by simp) hb2
                clear hq hb2 hT2 d0 d1 c0 c1 hT
                go_loopw [10, 61] (fun f i wr => ∃ m : Nat, m ≤ 15 ∧ i = .int .i64 m ∧ f = .int .i64 ((FS (rl k j) b (k * 225 + j * 15 + m) : Nat) : Int) ∧ LI w g wr ∧ wr.cell? ⟨wo.heap.size, 0, none⟩ = some (.int .i64 (spA k)) ∧ wr.cell? ⟨wo.heap.size, 1, none⟩ = some (.int .i64 (spB k)) ∧ wr.cell? ⟨wp.heap.size, 0, none⟩ = some (.int .i64 (spA j)) ∧ wr.cell? ⟨wp.heap.size, 1, none⟩ = some (.int .i64 (spB j))) (fun _ i _ => 15 - (intOf i).toNat)
                case atStart => exact ⟨0, by omega, rfl, rfl, hT3, a0, a1, b0, b1⟩
                case round =>
                  clear hT3 a0 a1 b0 b1
                  obtain ⟨wq, rfl⟩ : ∃ wq : World, wq = wr := ⟨_, rfl⟩
                  obtain ⟨m, hm, rfl, rfl, hT4, p0, p1, q0, q1⟩ := hrel
                  by_cases hlm : m < 15
                  · have m15 : decide ((m : Int) < 15) = true := by simp; omega
                    have f0 : wq.cell? ⟨g, m * 2, none⟩ = some (.int .i64 (spA m)) := hT4.1 _ _ (flat_get0 spL m (by rw [spL_len]; omega))
                    have f1 : wq.cell? ⟨g, m * 2 + 1, none⟩ = some (.int .i64 (spB m)) := hT4.1 _ _ (flat_get1 spL m (by rw [spL_len]; omega))
                    have mg : g < wq.heap.size := block_of_cell f0
                    have ma : wo.heap.size < wq.heap.size := block_of_cell p0
                    have mb : wp.heap.size < wq.heap.size := block_of_cell q0
                    have r3 := rl_lt k m hlt hlm
                    have i5 : (0 : Int) ≤ ((rl k m : Nat) : Int) := by omega
                    have hpw := wrap_pw (rl k m) (by omega)
                    have hfl := FS_lt (rl k j) b (k * 225 + j * 15 + m) (by omega) ha hb
                    have hor : bits .or .i64 ((FS (rl k j) b (k * 225 + j * 15 + m) : Nat) : Int) ((pw (rl k m) : Nat) : Int) = ((FS (rl k j) b (k * 225 + j * 15 + m) ||| 2 ^ rl k m : Nat) : Int) := by
                      rw [bits_or _ _ (by omega) (by have := pow_lt (rl k m) (by omega); unfold pw; omega)]; rfl
                    have hst := FS_step (rl k j) b k j m hlj hlm
                    have HT4 := Lib.hid hT4
                    clear hT4 hfl
                    have HS := Lib.hid hst
                    clear hst
                    by_cases hrb : rl j m = b
                    · subst hrb
                      go_wp2_with (first | (go_at_call 12; (with_reducible refine (of_sp k m hlt hlm _).mono ?_); rintro e w3 ⟨rfl, hb3⟩; have h3 : Below wq.heap.size wq w3 := (Sl.bstep (by go_grown) hb3); have Q0 := Sl.cell_kept q0 h3; have Q1 := Sl.cell_kept q1 h3; have Z0 : w3.cell? ⟨wq.heap.size, 0, none⟩ = some (.int .i64 (spA m)) := (Sl.cell_kept (by simp) hb3); have Z1 : w3.cell? ⟨wq.heap.size, 1, none⟩ = some (.int .i64 (spB m)) := (Sl.cell_kept (by simp) hb3)) | (go_at_call 12; (with_reducible refine (of_sp j m hlj hlm _).mono ?_); rintro e w4 ⟨rfl, hb4⟩; have h4 := Sl.bstep h3 hb4))
                      go_roundw
                      case rel => exact ⟨m + 1, by omega, by go_num, by rw [show k * 225 + j * 15 + (m + 1) = k * 225 + j * 15 + m + 1 from rfl, HS.out, if_pos (by simp)], HT4.out.step h4, Sl.cell_kept p0 h4, Sl.cell_kept p1 h4, Sl.cell_kept q0 h4, Sl.cell_kept q1 h4⟩
                      case measure => simp [intOf]; omega
                    · have hrb' : ¬ ((rl j m : Nat) : Int) = ((b : Nat) : Int) := by omega
                      go_wp2_with (first | (go_at_call 12; (with_reducible refine (of_sp k m hlt hlm _).mono ?_); rintro e w3 ⟨rfl, hb3⟩; have h3 : Below wq.heap.size wq w3 := (Sl.bstep (by go_grown) hb3); have Q0 := Sl.cell_kept q0 h3; have Q1 := Sl.cell_kept q1 h3; have Z0 : w3.cell? ⟨wq.heap.size, 0, none⟩ = some (.int .i64 (spA m)) := (Sl.cell_kept (by simp) hb3); have Z1 : w3.cell? ⟨wq.heap.size, 1, none⟩ = some (.int .i64 (spB m)) := (Sl.cell_kept (by simp) hb3)) | (go_at_call 12; (with_reducible refine (of_sp j m hlj hlm _).mono ?_); rintro e w4 ⟨rfl, hb4⟩; have h4 := Sl.bstep h3 hb4))
                      go_roundw
                      case rel => exact ⟨m + 1, by omega, by go_num, by rw [show k * 225 + j * 15 + (m + 1) = k * 225 + j * 15 + m + 1 from rfl, HS.out, if_neg (fun e => hrb e.2)], HT4.out.step h4, Sl.cell_kept p0 h4, Sl.cell_kept p1 h4, Sl.cell_kept q0 h4, Sl.cell_kept q1 h4⟩
                      case measure => simp [intOf]; omega
                  · obtain rfl : m = 15 := by omega
                    have HT5 := Lib.hid hT4
                    clear hT4
                    go_wp2
                    go_roundw
                    case rel => exact ⟨j + 1, by omega, by go_num, by rw [show k * 225 + (j + 1) * 15 = k * 225 + j * 15 + 15 by omega], HT5.out, p0, p1⟩
                    case measure => simp [intOf]; omega
              · have hra' : ¬ ((rl k j : Nat) : Int) = ((a : Nat) : Int) := by omega
                go_wp2_with (go_at_call 12; (with_reducible refine (of_sp k j hlt hlj _).mono ?_); rintro e w2 ⟨rfl, hb2⟩)
                have hq : Below wp.heap.size wp w2 := Sl.bstep (by go_grown) hb2
                go_roundw
                case rel => exact ⟨j + 1, by omega, by go_num, by rw [show k * 225 + (j + 1) * 15 = k * 225 + j * 15 + 15 by omega, FS_skip a b k j hlj hra 15 (by omega)], hT2.step hq, Sl.cell_kept a0 hq, Sl.cell_kept a1 hq⟩
                case measure => simp [intOf]; omega
            · obtain rfl : j = 15 := by omega
              go_wp2
              go_roundw
              case rel => exact ⟨k + 1, by omega, by go_num, by rw [show (k + 1) * 225 = k * 225 + 15 * 15 by omega], hT2⟩
              case measure => simp [intOf]; omega
        · obtain rfl : k = 15 := by omega
          have hF : FS a b (15 * 225) = bas a b := FS_bas a b ha hb
          simp only [hF]
          have hTw := hT.2
          go_wp2_with (go_at_call 13; (with_reducible refine (basic_nat a b ha hb _).mono ?_); rintro e w2 ⟨rfl, hb2⟩)
          go_ret
          exact ⟨rfl, Sl.bstep hTw hb2⟩
theorem allenTight_walk (r q : Int) (wr : (Lit.int .u8 r).wf = true) (wq : (Lit.int .u8 q).wf = true) (w : World) : Calls Try.prog 3 #[.int .u8 r, .int .u8 q] w fun e w' => e = .returned (.bool true) ∧ Below w.heap.size w w' := by
  have h1 : 0 ≤ r ∧ r < 256 := by have h := wr; simp [Lit.wf, IntKind.min, IntKind.max, IntKind.signed, IntKind.bits] at h; omega
  have h2 : 0 ≤ q ∧ q < 256 := by have h := wq; simp [Lit.wf, IntKind.min, IntKind.max, IntKind.signed, IntKind.bits] at h; omega
  obtain ⟨x, rfl⟩ : ∃ x : Nat, r = x := ⟨r.toNat, by omega⟩
  obtain ⟨y, rfl⟩ : ∃ y : Nat, q = y := ⟨q.toNat, by omega⟩
  exact tight_nat x y (by omega) (by omega) w
end Go.Proofs.Ytmkgddgdeffllaa.Al
