/-
  The walk of tokens (layer 34).
-/
import Derived.Test.YtokbipfkpojflaaDoorScJ
set_option linter.unusedSimpArgs false
set_option linter.unusedVariables false
namespace Go.Proofs.YtokbipfkpojflaaDoor.Sc
open Go Go.RowKit Go.ChangeShapes Go.WideShapes Go.Proofs.YtokbipfkpojflaaDoor.Sl Go.Lib
open Go.Proofs.YtokbipfkpojflaaDoor.Lx (Tok tokV cellsT cellsT_len cellsT_app cellsT_one cellsT_last cellsT_set addLast addLast_snoc snoc_of ext_one)
set_option maxRecDepth 20000 in
set_option maxHeartbeats 40000000 in
theorem tokens_any (s : ByteArray) (w : World) (hs : s.size ≤ 65536) :
    Calls Tryd.prog 26 #[.string s] w fun e w' => ∃ v, e = .returned (tokX v (tokS s).2.1 (tokS s).2.2) ∧ Ts w' v (tokS s).1 ∧ Below w.heap.size w w' := by
  have HLR := Lib.hid (show tokS s = tokOut (tokRun s.data.toList 0 0 ([], false)) from rfl)
  go_enter Tryd.func26, Tryd.ntmps26
  go_wp2
  go_loopw [5, 7, 13] (fun line ins i wx => ∃ (j k q : Nat) (ws : List Tok) (op : Bool), j ≤ s.size ∧ k ≤ j ∧ q ≤ j ∧ ws.length ≤ j ∧ (∀ t ∈ ws, t.1.size ≤ j) ∧ (op = true → ws ≠ []) ∧ i = .int .i64 j ∧ ins = .bool op ∧ tokRun s.data.toList 0 0 ([], false) = tokRun (s.data.toList.drop j) k q (ws, op) ∧ TInv (w.heap.size + 1) (w.heap.size + 1) wx line ws ∧ PosAt wx (w.heap.size + 1) ((k : Int) + 1) ((q : Int) + 1) ∧ PosAt wx w.heap.size 0 0 ∧ Below w.heap.size w wx) (fun _ _ i _ => s.size - (intOf i).toNat)
  case atStart =>
    have p1 := pos_new (w.alloc (.cells #[.int .i64 0, .int .i64 0] 33)) 1 1 33
    have p0 := (pos_new w 0 0 33).kept (World.grownBy_alloc _ (.cells #[.int .i64 1, .int .i64 1] 33) none) (by simp)
    have e : (w.alloc (.cells #[.int .i64 0, .int .i64 0] 33)).heap.size = w.heap.size + 1 := by simp
    rw [e] at p1
    exact ⟨0, 0, 0, [], false, Nat.zero_le _, Nat.le_refl _, Nat.le_refl _, Nat.le_refl _, fun t ht => by simp at ht, fun h => by simp at h, rfl, rfl, rfl, ⟨World.ownsRow_nil _ _ _ _, by simp [Value.ownBlock]⟩, p1, p0, by go_grown⟩
  case round =>
    obtain ⟨j, k, q, ws, op, hj, hkj, hqj, hwl, htl, hop, rfl, rfl, hf, hI, hP, hR, hL⟩ := hrel
    have HF := Lib.hid hf
    have HI := Lib.hid hI
    have HP := Lib.hid hP
    have HR := Lib.hid hR
    have HTL := Lib.hid htl
    have HOP := Lib.hid hop
    obtain ⟨c0, c1, f0, f1⟩ := hP
    obtain ⟨r0, r1, rf0, rf1⟩ := hR
    have hPs : w.heap.size + 1 < wr.heap.size := block_of_cell c0
    have HFL := Lib.hid (hI.far (R := w.heap.size) (by omega))
    have hnn : ¬ w.heap.size = w.heap.size + 1 := by omega
    clear hf hI htl hop
    by_cases hlt : j < s.size
    · obtain ⟨c, hc, hs0⟩ := Go.Proofs.YtokbipfkpojflaaDoor.Lx.byte_at s j hlt
      have HS := Lib.hid hs0
      have hc256 : c.toNat < 256 := c.toNat_lt
      clear hs0
      by_cases h10 : c.toNat = 10
      · have HX := Lib.hid (HF.out.trans (tokRun_nl _ j k q (ws, op) c HS.out h10))
        go_wp2
        go_roundw
        case rel =>
          refine ⟨j + 1, k + 1, 0, ws, false, by omega, by omega, by omega, by omega, fun t ht => by have := HTL.out t ht; omega, fun h => by simp at h, by go_num, rfl, HX.out, ?_, ?_, ?_, ?_⟩
          · exact HI.out.kept (by repeat (first | exact gp_refl _ _ | apply gp_set | apply gp_drew | apply gp_alloc)) (.inl rfl)
          · rw [cast1, show (((0 : Nat) : Int) + 1) = 1 from rfl]; first | exact HP.out.both _ _ | exact (HP.out.col _).both _ _
          · exact HR.out.kept (row := some (w.heap.size + 1)) (by repeat (first | exact gp_refl _ _ | apply gp_set | apply gp_drew | apply gp_alloc)) (by simp)
          · go_grown
        case measure => simp [intOf]; omega
      · have b10 : ((c.toNat : Int) == 10) = false := by simp; omega
        by_cases hb : badT c = true
        · have hx : ¬ c.toNat = 32 ∧ ¬ c.toNat = 9 ∧ (c.toNat < 33 ∨ 126 < c.toNat) := by simp [badT, blankC] at hb; omega
          obtain ⟨h32, h9, hx⟩ := hx
          have b32 : ((c.toNat : Int) == 32) = false := by simp; omega
          have b9 : ((c.toNat : Int) == 9) = false := by simp; omega
          have b10 : ((c.toNat : Int) == 10) = false := by simp; omega
          have hv : tokS s = ([], (k + 1, q + 1), 3) := by rw [HLR.out, HF.out, tokRun_bad _ j k q (ws, op) c HS.out hb]; rfl
          have HV := Lib.hid hv
          clear hv hb h10 h32 h9
          have hpc := HR.out.both ((k : Int) + 1) ((q : Int) + 1)
          rcases hx with hx | hx
          · have hz : True := trivial
            go_wp2
            go_region
            go_wp2
            rw [HV.out]
            refine bodyPost_ret (v := tokX (.slice none 0 0) (k + 1, q + 1) 3) (by simp [results, Tryd.results26, go_sem, hpc.1, hpc.2.1, tokX, posV]; try rfl) rfl ?_
            exact ⟨_, rfl, ⟨Sl.mk0 .., Cap.mk (Nat.le_refl _)⟩, by go_grown⟩
          · have hlo : ¬ c.toNat < 33 := by omega
            go_wp2
            go_region
            go_wp2
            rw [HV.out]
            refine bodyPost_ret (v := tokX (.slice none 0 0) (k + 1, q + 1) 3) (by simp [results, Tryd.results26, go_sem, hpc.1, hpc.2.1, tokX, posV]; try rfl) rfl ?_
            exact ⟨_, rfl, ⟨Sl.mk0 .., Cap.mk (Nat.le_refl _)⟩, by go_grown⟩
        · have HX := Lib.hid (HF.out.trans (tokRun_step _ j k q (ws, op) c HS.out h10 hb))
          have hnb : c.toNat = 32 ∨ c.toNat = 9 ∨ (¬ c.toNat = 32 ∧ ¬ c.toNat = 9 ∧ 33 ≤ c.toNat ∧ c.toNat ≤ 126) := by simp [badT, blankC] at hb; omega
          clear hb
          rcases hnb with h32 | h9 | ⟨h32, h9, hlo, hhi⟩
          · have HX2 := Lib.hid (show tokRun s.data.toList 0 0 ([], false) = tokRun (s.data.toList.drop (j + 1)) k (q + 1) (ws, false) by rw [HX.out]; simp [stT, blankC, h32])
            clear HX
            go_wp2
            go_roundw
            case rel =>
              refine ⟨j + 1, k, q + 1, ws, false, by omega, by omega, by omega, by omega, fun t ht => by have := HTL.out t ht; omega, fun h => by simp at h, by go_num, rfl, HX2.out, ?_, ?_, ?_, ?_⟩
              · exact HI.out.kept (by repeat (first | exact gp_refl _ _ | apply gp_set | apply gp_drew | apply gp_alloc)) (.inl rfl)
              · rw [cast1]; exact HP.out.col _
              · exact HR.out.kept (row := some (w.heap.size + 1)) (by repeat (first | exact gp_refl _ _ | apply gp_set | apply gp_drew | apply gp_alloc)) (by simp)
              · exact hL.setCell (p := ⟨w.heap.size + 1, 1, none⟩) (Nat.le_succ _) _
            case measure => simp [intOf]; omega
          · have HX2 := Lib.hid (show tokRun s.data.toList 0 0 ([], false) = tokRun (s.data.toList.drop (j + 1)) k (q + 1) (ws, false) by rw [HX.out]; simp [stT, blankC, h9])
            clear HX
            go_wp2
            go_roundw
            case rel =>
              refine ⟨j + 1, k, q + 1, ws, false, by omega, by omega, by omega, by omega, fun t ht => by have := HTL.out t ht; omega, fun h => by simp at h, by go_num, rfl, HX2.out, ?_, ?_, ?_, ?_⟩
              · exact HI.out.kept (by repeat (first | exact gp_refl _ _ | apply gp_set | apply gp_drew | apply gp_alloc)) (.inl rfl)
              · rw [cast1]; exact HP.out.col _
              · exact HR.out.kept (row := some (w.heap.size + 1)) (by repeat (first | exact gp_refl _ _ | apply gp_set | apply gp_drew | apply gp_alloc)) (by simp)
              · exact hL.setCell (p := ⟨w.heap.size + 1, 1, none⟩) (Nat.le_succ _) _
            case measure => simp [intOf]; omega
          · have b9 : ((c.toNat : Int) == 9) = false := by simp; omega
            have b32 : ((c.toNat : Int) == 32) = false := by simp; omega
            have hnb : blankC c = false := by simp [blankC, h10, h32, h9]
            have hE : s.extract j (j + 1) = ⟨#[c]⟩ := by rw [Go.Proofs.YtokbipfkpojflaaDoor.Lx.ext_one s j hlt, hc]
            have qw : IntKind.i64.wrap ((j : Int) + 1) = (j : Int) + 1 := by rw [IntKind.wrap_i64]; omega
            have qc : 0 ≤ (j : Int) + 1 ∧ (j : Int) + 1 ≤ (s.size : Int) := by omega
            have q1 : (j : Int) ≤ (j : Int) + 1 := by omega
            have hmk : c.toNat = 40 ∨ c.toNat = 41 ∨ c.toNat = 44 ∨ (¬ c.toNat = 40 ∧ ¬ c.toNat = 41 ∧ ¬ c.toNat = 44) := by omega
            rcases hmk with h40 | h41 | h44 | ⟨h40, h41, h44⟩
            · have HX2 := Lib.hid (show tokRun s.data.toList 0 0 ([], false) = tokRun (s.data.toList.drop (j + 1)) k (q + 1) (ws ++ [(⟨#[c]⟩, k + 1, q + 1)], false) by rw [HX.out]; simp [stT, hnb, markC, h40])
              clear HX hnb
              obtain ⟨ii, hi, hz0, hz1, hz2⟩ := info_parts info_tok
              obtain ⟨N, hN⟩ : ∃ N, N = ws.length := ⟨_, rfl⟩
              obtain ⟨hown, hneP⟩ := HI.out
              rw [← hN] at hown
              have HN := Lib.hid hN
              have hwl' : N ≤ j := by rw [hN]; exact hwl
              have HNP := Lib.hid hneP
              have HOW := Lib.hid hown
              have hob := Lib.hid (fun k e => (hown.lt k e).1)
              clear hN hown hneP hwl h10 h32 h9 hlo hhi
              go_upto_region 15 with fail
              go_region_held_law (fun w' => w'.cell? ⟨w.heap.size + 1, 0, none⟩ = some (.int .i64 ((k : Int) + 1)) ∧ w'.cell? ⟨w.heap.size + 1, 1, none⟩ = some (.int .i64 ((q : Int) + 1))) (first | go_keep | (go_split_ands; refine ⟨?_, ?_⟩ <;> (rw [hgr.cell_far _ (by simp; omega) (Ne.symm HNP.out)]; assumption))) ((refine step_append_lies _ (by rfl) _ _ _ (by rfl) (w.heap.size + 1) 71 ii _ 3 32 Tryd.underlying60 hi hz0 hz1 hz2 rfl (by decide) u5 N (cellsT ws) (by rfl) ((HOW.out.alloc _).drew) ⟨wr.heap.size, 0, none⟩ 1 1 [.string ⟨#[c]⟩, .int .i64 ((k : Int) + 1), .int .i64 ((q : Int) + 1)] (by rfl) (by rfl) (World.news_of_block (cs := #[.string ⟨#[c]⟩, .int .i64 ((k : Int) + 1), .int .i64 ((q : Int) + 1)]) (t := 71) (fr := (0, 0)) (heap_alloc_new wr _)) (by simp [Value.oneCell']) (by omega) (by unfold maxLen; omega) (by omega) (by simp; omega) (wr.heap.size + 1) (by simp) ?_; intro g1 cap1 w2 hown2 hgr hG hlt2))
              have hgr2 : wr.grownBy w2 u5.ownBlock := (gp_drew (gp_alloc (gp_refl wr _) _)).trans hgr
              have hG2 : u5.ownBlock = some g1 ∨ wr.heap.size ≤ g1 := hG.imp id (fun h => by omega)
              have HP2 := HP.out.kept hgr2 (Ne.symm HNP.out)
              have HR2 := Lib.hid (HR.out.kept hgr2 HFL.out)
              have HL2 := grow_step hL hgr2 (fun k hk => by have := hob.out k hk; omega)
              have HI2 := Lib.hid (TInv.line HI.out hPs (ws' := ws ++ [((⟨#[c]⟩ : ByteArray), k + 1, q + 1)]) (by rw [List.length_append, ← HN.out, cellsT_app, cells_tok]; exact hown2) rfl hG2)
              have HP3 := Lib.hid HP2
              obtain ⟨d0, d1, e0, e1⟩ := HP2
              have hPs2 : w.heap.size + 1 < w2.heap.size := block_of_cell d0
              clear hown2 hgr hG hgr2 hG2
              go_wp2
              go_roundw
              case rel =>
                refine ⟨j + 1, k, q + 1, ws ++ [((⟨#[c]⟩ : ByteArray), k + 1, q + 1)], false, by omega, by omega, by omega, by (rw [List.length_append, ← HN.out]; simp; omega), ?_, fun _ h => by simp at h, by go_num, rfl, HX2.out, ?_, ?_, ?_, ?_⟩
                · intro t2 ht2
                  rcases List.mem_append.1 ht2 with h | h
                  · have := HTL.out t2 h; omega
                  · have e := List.mem_singleton.1 h
                    rw [e]
                    show 1 ≤ j + 1
                    omega
                · exact HI2.out.kept (by repeat (first | exact gp_refl _ _ | apply gp_set | apply gp_drew | apply gp_alloc)) (.inl rfl)
                · rw [cast1]; exact HP3.out.col _
                · exact HR2.out.kept (row := some (w.heap.size + 1)) (by repeat (first | exact gp_refl _ _ | apply gp_set | apply gp_drew | apply gp_alloc)) (by simp)
                · exact HL2.setCell (p := ⟨w.heap.size + 1, 1, none⟩) (Nat.le_succ _) _
              case measure => simp [intOf]; omega
            · have HX2 := Lib.hid (show tokRun s.data.toList 0 0 ([], false) = tokRun (s.data.toList.drop (j + 1)) k (q + 1) (ws ++ [(⟨#[c]⟩, k + 1, q + 1)], false) by rw [HX.out]; simp [stT, hnb, markC, h41])
              clear HX hnb
              obtain ⟨ii, hi, hz0, hz1, hz2⟩ := info_parts info_tok
              obtain ⟨N, hN⟩ : ∃ N, N = ws.length := ⟨_, rfl⟩
              obtain ⟨hown, hneP⟩ := HI.out
              rw [← hN] at hown
              have HN := Lib.hid hN
              have hwl' : N ≤ j := by rw [hN]; exact hwl
              have HNP := Lib.hid hneP
              have HOW := Lib.hid hown
              have hob := Lib.hid (fun k e => (hown.lt k e).1)
              clear hN hown hneP hwl h10 h32 h9 hlo hhi
              go_upto_region 15 with fail
              go_region_held_law (fun w' => w'.cell? ⟨w.heap.size + 1, 0, none⟩ = some (.int .i64 ((k : Int) + 1)) ∧ w'.cell? ⟨w.heap.size + 1, 1, none⟩ = some (.int .i64 ((q : Int) + 1))) (first | go_keep | (go_split_ands; refine ⟨?_, ?_⟩ <;> (rw [hgr.cell_far _ (by simp; omega) (Ne.symm HNP.out)]; assumption))) ((refine step_append_lies _ (by rfl) _ _ _ (by rfl) (w.heap.size + 1) 71 ii _ 3 32 Tryd.underlying60 hi hz0 hz1 hz2 rfl (by decide) u5 N (cellsT ws) (by rfl) ((HOW.out.alloc _).drew) ⟨wr.heap.size, 0, none⟩ 1 1 [.string ⟨#[c]⟩, .int .i64 ((k : Int) + 1), .int .i64 ((q : Int) + 1)] (by rfl) (by rfl) (World.news_of_block (cs := #[.string ⟨#[c]⟩, .int .i64 ((k : Int) + 1), .int .i64 ((q : Int) + 1)]) (t := 71) (fr := (0, 0)) (heap_alloc_new wr _)) (by simp [Value.oneCell']) (by omega) (by unfold maxLen; omega) (by omega) (by simp; omega) (wr.heap.size + 1) (by simp) ?_; intro g1 cap1 w2 hown2 hgr hG hlt2))
              have hgr2 : wr.grownBy w2 u5.ownBlock := (gp_drew (gp_alloc (gp_refl wr _) _)).trans hgr
              have hG2 : u5.ownBlock = some g1 ∨ wr.heap.size ≤ g1 := hG.imp id (fun h => by omega)
              have HP2 := HP.out.kept hgr2 (Ne.symm HNP.out)
              have HR2 := Lib.hid (HR.out.kept hgr2 HFL.out)
              have HL2 := grow_step hL hgr2 (fun k hk => by have := hob.out k hk; omega)
              have HI2 := Lib.hid (TInv.line HI.out hPs (ws' := ws ++ [((⟨#[c]⟩ : ByteArray), k + 1, q + 1)]) (by rw [List.length_append, ← HN.out, cellsT_app, cells_tok]; exact hown2) rfl hG2)
              have HP3 := Lib.hid HP2
              obtain ⟨d0, d1, e0, e1⟩ := HP2
              have hPs2 : w.heap.size + 1 < w2.heap.size := block_of_cell d0
              clear hown2 hgr hG hgr2 hG2
              go_wp2
              go_roundw
              case rel =>
                refine ⟨j + 1, k, q + 1, ws ++ [((⟨#[c]⟩ : ByteArray), k + 1, q + 1)], false, by omega, by omega, by omega, by (rw [List.length_append, ← HN.out]; simp; omega), ?_, fun _ h => by simp at h, by go_num, rfl, HX2.out, ?_, ?_, ?_, ?_⟩
                · intro t2 ht2
                  rcases List.mem_append.1 ht2 with h | h
                  · have := HTL.out t2 h; omega
                  · have e := List.mem_singleton.1 h
                    rw [e]
                    show 1 ≤ j + 1
                    omega
                · exact HI2.out.kept (by repeat (first | exact gp_refl _ _ | apply gp_set | apply gp_drew | apply gp_alloc)) (.inl rfl)
                · rw [cast1]; exact HP3.out.col _
                · exact HR2.out.kept (row := some (w.heap.size + 1)) (by repeat (first | exact gp_refl _ _ | apply gp_set | apply gp_drew | apply gp_alloc)) (by simp)
                · exact HL2.setCell (p := ⟨w.heap.size + 1, 1, none⟩) (Nat.le_succ _) _
              case measure => simp [intOf]; omega
            · have HX2 := Lib.hid (show tokRun s.data.toList 0 0 ([], false) = tokRun (s.data.toList.drop (j + 1)) k (q + 1) (ws ++ [(⟨#[c]⟩, k + 1, q + 1)], false) by rw [HX.out]; simp [stT, hnb, markC, h44])
              clear HX hnb
              obtain ⟨ii, hi, hz0, hz1, hz2⟩ := info_parts info_tok
              obtain ⟨N, hN⟩ : ∃ N, N = ws.length := ⟨_, rfl⟩
              obtain ⟨hown, hneP⟩ := HI.out
              rw [← hN] at hown
              have HN := Lib.hid hN
              have hwl' : N ≤ j := by rw [hN]; exact hwl
              have HNP := Lib.hid hneP
              have HOW := Lib.hid hown
              have hob := Lib.hid (fun k e => (hown.lt k e).1)
              clear hN hown hneP hwl h10 h32 h9 hlo hhi
              go_upto_region 15 with fail
              go_region_held_law (fun w' => w'.cell? ⟨w.heap.size + 1, 0, none⟩ = some (.int .i64 ((k : Int) + 1)) ∧ w'.cell? ⟨w.heap.size + 1, 1, none⟩ = some (.int .i64 ((q : Int) + 1))) (first | go_keep | (go_split_ands; refine ⟨?_, ?_⟩ <;> (rw [hgr.cell_far _ (by simp; omega) (Ne.symm HNP.out)]; assumption))) ((refine step_append_lies _ (by rfl) _ _ _ (by rfl) (w.heap.size + 1) 71 ii _ 3 32 Tryd.underlying60 hi hz0 hz1 hz2 rfl (by decide) u5 N (cellsT ws) (by rfl) ((HOW.out.alloc _).drew) ⟨wr.heap.size, 0, none⟩ 1 1 [.string ⟨#[c]⟩, .int .i64 ((k : Int) + 1), .int .i64 ((q : Int) + 1)] (by rfl) (by rfl) (World.news_of_block (cs := #[.string ⟨#[c]⟩, .int .i64 ((k : Int) + 1), .int .i64 ((q : Int) + 1)]) (t := 71) (fr := (0, 0)) (heap_alloc_new wr _)) (by simp [Value.oneCell']) (by omega) (by unfold maxLen; omega) (by omega) (by simp; omega) (wr.heap.size + 1) (by simp) ?_; intro g1 cap1 w2 hown2 hgr hG hlt2))
              have hgr2 : wr.grownBy w2 u5.ownBlock := (gp_drew (gp_alloc (gp_refl wr _) _)).trans hgr
              have hG2 : u5.ownBlock = some g1 ∨ wr.heap.size ≤ g1 := hG.imp id (fun h => by omega)
              have HP2 := HP.out.kept hgr2 (Ne.symm HNP.out)
              have HR2 := Lib.hid (HR.out.kept hgr2 HFL.out)
              have HL2 := grow_step hL hgr2 (fun k hk => by have := hob.out k hk; omega)
              have HI2 := Lib.hid (TInv.line HI.out hPs (ws' := ws ++ [((⟨#[c]⟩ : ByteArray), k + 1, q + 1)]) (by rw [List.length_append, ← HN.out, cellsT_app, cells_tok]; exact hown2) rfl hG2)
              have HP3 := Lib.hid HP2
              obtain ⟨d0, d1, e0, e1⟩ := HP2
              have hPs2 : w.heap.size + 1 < w2.heap.size := block_of_cell d0
              clear hown2 hgr hG hgr2 hG2
              go_wp2
              go_roundw
              case rel =>
                refine ⟨j + 1, k, q + 1, ws ++ [((⟨#[c]⟩ : ByteArray), k + 1, q + 1)], false, by omega, by omega, by omega, by (rw [List.length_append, ← HN.out]; simp; omega), ?_, fun _ h => by simp at h, by go_num, rfl, HX2.out, ?_, ?_, ?_, ?_⟩
                · intro t2 ht2
                  rcases List.mem_append.1 ht2 with h | h
                  · have := HTL.out t2 h; omega
                  · have e := List.mem_singleton.1 h
                    rw [e]
                    show 1 ≤ j + 1
                    omega
                · exact HI2.out.kept (by repeat (first | exact gp_refl _ _ | apply gp_set | apply gp_drew | apply gp_alloc)) (.inl rfl)
                · rw [cast1]; exact HP3.out.col _
                · exact HR2.out.kept (row := some (w.heap.size + 1)) (by repeat (first | exact gp_refl _ _ | apply gp_set | apply gp_drew | apply gp_alloc)) (by simp)
                · exact HL2.setCell (p := ⟨w.heap.size + 1, 1, none⟩) (Nat.le_succ _) _
              case measure => simp [intOf]; omega
            · have b40 : ((c.toNat : Int) == 40) = false := by simp; omega
              have b41 : ((c.toNat : Int) == 41) = false := by simp; omega
              have b44 : ((c.toNat : Int) == 44) = false := by simp; omega
              have n33 : ¬ (c.toNat : Int) < 33 := by omega
              have n126 : ¬ 126 < (c.toNat : Int) := by omega
              cases op
              · have HX2 := Lib.hid (show tokRun s.data.toList 0 0 ([], false) = tokRun (s.data.toList.drop (j + 1)) k (q + 1) (ws ++ [(⟨#[c]⟩, k + 1, q + 1)], true) by rw [HX.out]; simp [stT, hnb, markC, h40, h41, h44])
                clear HX hnb h40 h41 h44
                obtain ⟨ii, hi, hz0, hz1, hz2⟩ := info_parts info_tok
                obtain ⟨N, hN⟩ : ∃ N, N = ws.length := ⟨_, rfl⟩
                obtain ⟨hown, hneP⟩ := HI.out
                rw [← hN] at hown
                have HN := Lib.hid hN
                have hwl' : N ≤ j := by rw [hN]; exact hwl
                have HNP := Lib.hid hneP
                have HOW := Lib.hid hown
                have hob := Lib.hid (fun k e => (hown.lt k e).1)
                clear hN hown hneP hwl h10 h32 h9 hlo hhi
                go_upto_region 8 with fail
                go_region_held_law (fun w' => w'.cell? ⟨w.heap.size + 1, 0, none⟩ = some (.int .i64 ((k : Int) + 1)) ∧ w'.cell? ⟨w.heap.size + 1, 1, none⟩ = some (.int .i64 ((q : Int) + 1))) (first | go_keep | (go_split_ands; refine ⟨?_, ?_⟩ <;> (rw [hgr.cell_far _ (by simp; omega) (Ne.symm HNP.out)]; assumption))) ((refine step_append_lies _ (by rfl) _ _ _ (by rfl) (w.heap.size + 1) 71 ii _ 3 32 Tryd.underlying60 hi hz0 hz1 hz2 rfl (by decide) u5 N (cellsT ws) (by rfl) ((HOW.out.alloc _).drew) ⟨wr.heap.size, 0, none⟩ 1 1 [.string ⟨#[c]⟩, .int .i64 ((k : Int) + 1), .int .i64 ((q : Int) + 1)] (by rfl) (by rfl) (World.news_of_block (cs := #[.string ⟨#[c]⟩, .int .i64 ((k : Int) + 1), .int .i64 ((q : Int) + 1)]) (t := 71) (fr := (0, 0)) (heap_alloc_new wr _)) (by simp [Value.oneCell']) (by omega) (by unfold maxLen; omega) (by omega) (by simp; omega) (wr.heap.size + 1) (by simp) ?_; intro g1 cap1 w2 hown2 hgr hG hlt2))
                have hgr2 : wr.grownBy w2 u5.ownBlock := (gp_drew (gp_alloc (gp_refl wr _) _)).trans hgr
                have hG2 : u5.ownBlock = some g1 ∨ wr.heap.size ≤ g1 := hG.imp id (fun h => by omega)
                have HP2 := HP.out.kept hgr2 (Ne.symm HNP.out)
                have HR2 := Lib.hid (HR.out.kept hgr2 HFL.out)
                have HL2 := grow_step hL hgr2 (fun k hk => by have := hob.out k hk; omega)
                have HI2 := Lib.hid (TInv.line HI.out hPs (ws' := ws ++ [((⟨#[c]⟩ : ByteArray), k + 1, q + 1)]) (by rw [List.length_append, ← HN.out, cellsT_app, cells_tok]; exact hown2) rfl hG2)
                have HP3 := Lib.hid HP2
                obtain ⟨d0, d1, e0, e1⟩ := HP2
                have hPs2 : w.heap.size + 1 < w2.heap.size := block_of_cell d0
                clear hown2 hgr hG hgr2 hG2
                go_wp2
                go_roundw
                case rel =>
                  refine ⟨j + 1, k, q + 1, ws ++ [((⟨#[c]⟩ : ByteArray), k + 1, q + 1)], true, by omega, by omega, by omega, by (rw [List.length_append, ← HN.out]; simp; omega), ?_, fun _ h => by simp at h, by go_num, rfl, HX2.out, ?_, ?_, ?_, ?_⟩
                  · intro t2 ht2
                    rcases List.mem_append.1 ht2 with h | h
                    · have := HTL.out t2 h; omega
                    · have e := List.mem_singleton.1 h
                      rw [e]
                      show 1 ≤ j + 1
                      omega
                  · exact HI2.out.kept (by repeat (first | exact gp_refl _ _ | apply gp_set | apply gp_drew | apply gp_alloc)) (.inl rfl)
                  · rw [cast1]; exact HP3.out.col _
                  · exact HR2.out.kept (row := some (w.heap.size + 1)) (by repeat (first | exact gp_refl _ _ | apply gp_set | apply gp_drew | apply gp_alloc)) (by simp)
                  · exact HL2.setCell (p := ⟨w.heap.size + 1, 1, none⟩) (Nat.le_succ _) _
                case measure => simp [intOf]; omega
              · have hwne := HOP.out rfl
                obtain ⟨ws', t, rfl⟩ := snoc_of ws hwne
                have HX2 := Lib.hid (show tokRun s.data.toList 0 0 ([], false) = tokRun (s.data.toList.drop (j + 1)) k (q + 1) (ws' ++ [(t.1 ++ ⟨#[c]⟩, t.2)], true) by rw [HX.out]; simp [stT, hnb, markC, h40, h41, h44, addLast_snoc])
                clear hnb HX hwne h40 h41 h44
                obtain ⟨N, hN⟩ : ∃ N, N = ws'.length := ⟨_, rfl⟩
                have hown : wr.ownsRow (w.heap.size + 1) 71 3 u5 (N + 1) (cellsT (ws' ++ [t])) := by have := HI.out.1; rw [List.length_append, ← hN] at this; exact this
                obtain ⟨g0, cap, rfl, hg1, hg2⟩ := hown.form (by omega)
                have cN : wr.cell? ⟨g0, N * 3, none⟩ = some (.string t.1) := by rw [hown.cellAt _ (by omega), hN]; exact cellsT_last ws' t
                have fN : wr.frozen? ⟨g0, N * 3, none⟩ = false := hown.frozenAt _
                have tb : t.1.size ≤ j := HTL.out t (by simp)
                have hwl' : N + 1 ≤ j := by rw [List.length_append, ← hN] at hwl; exact hwl
                have HOW := Lib.hid hown
                have HN := Lib.hid hN
                have hneP : ¬ g0 = w.heap.size + 1 := by
                  intro e; exact HI.out.2 (by rw [e]; rfl)
                clear hwl hown hN h10 h32 h9 hlo hhi
                go_wp2
                go_region
                go_wp2
                go_roundw
                case rel =>
                  have hst := HOW.out.stored (N * 3) (.string (t.1 ++ ⟨#[c]⟩))
                  have hset := hst.1
                  rw [HN.out, cellsT_set, ← HN.out] at hset
                  have hgr2 := hst.2
                  have HI2 := TInv.line HI.out hPs (ws' := ws' ++ [(t.1 ++ ⟨#[c]⟩, t.2)]) (by rw [List.length_append, ← HN.out]; exact hset) rfl (.inl rfl)
                  have HP2 := HP.out.kept hgr2 (by simp; omega)
                  have HR2 := HR.out.kept hgr2 HFL.out
                  have HL2 := hL.setCell (p := ⟨g0, N * 3, none⟩) (by show w.heap.size ≤ g0; omega) (.string (t.1 ++ ⟨#[c]⟩))
                  refine ⟨j + 1, k, q + 1, ws' ++ [(t.1 ++ ⟨#[c]⟩, t.2)], true, by omega, by omega, by omega, by (rw [List.length_append, ← HN.out]; simp; omega), ?_, fun _ h => by simp at h, by go_num, rfl, HX2.out, ?_, ?_, ?_, ?_⟩
                  · intro t2 ht2
                    rcases List.mem_append.1 ht2 with h | h
                    · have := HTL.out t2 (List.mem_append_left _ h); omega
                    · have e := List.mem_singleton.1 h
                      rw [e]
                      show (t.1 ++ ⟨#[c]⟩).size ≤ j + 1
                      rw [ByteArray.size_append]
                      show t.1.size + 1 ≤ j + 1
                      omega
                  · exact HI2.kept (by repeat (first | exact gp_refl _ _ | apply gp_set | apply gp_drew | apply gp_alloc)) (.inl rfl)
                  · rw [cast1]; exact (HP2.col _).kept (row := none) (by repeat (first | exact gp_refl _ _ | apply gp_drew | apply gp_alloc)) (by simp)
                  · exact HR2.kept (row := some (w.heap.size + 1)) (by repeat (first | exact gp_refl _ _ | apply gp_set | apply gp_drew | apply gp_alloc)) (by simp)
                  · first | exact HL2.setCell (p := ⟨w.heap.size + 1, 1, none⟩) (Nat.le_succ _) _ | exact (HL2.setCell (p := ⟨w.heap.size + 1, 1, none⟩) (Nat.le_succ _) _).drew | exact HL2.drew.setCell (p := ⟨w.heap.size + 1, 1, none⟩) (Nat.le_succ _) _
                case measure => simp [intOf]; omega
    · have hv : tokS s = (ws, (0, 0), 0) := by rw [HLR.out, HF.out, tokRun_end _ j k q (ws, op) (by rw [Go.Proofs.YtokbipfkpojflaaDoor.Lx.len_is]; omega)]; rfl
      have HV := Lib.hid hv
      clear hv
      have hpc := HR.out.both 0 0
      go_wp2
      rw [HV.out]
      refine bodyPost_ret (v := tokX u5 (0, 0) 0) (by simp [results, Tryd.results26, go_sem, hpc.1, hpc.2.1, tokX, posV]; try rfl) rfl ?_
      refine ⟨_, rfl, ?_, ?_⟩
      · exact ownTs (HI.out.kept (Q := w.heap.size) (by repeat (first | exact gp_refl _ _ | apply gp_set | apply gp_drew | apply gp_alloc)) (.inr (Nat.lt_succ_self _))).1
      · exact (hL.setCell (p := ⟨w.heap.size, 0, none⟩) (Nat.le_refl _) _).setCell (p := ⟨w.heap.size, 1, none⟩) (Nat.le_refl _) _
end Go.Proofs.YtokbipfkpojflaaDoor.Sc
