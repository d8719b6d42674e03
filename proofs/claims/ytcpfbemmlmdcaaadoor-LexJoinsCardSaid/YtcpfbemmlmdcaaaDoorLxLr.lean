/-
  The walk of the reference's Lines (layer 18), of the program civiltime.
-/
import Derived.Test.YtcpfbemmlmdcaaaDoorLxLp
import Derived.Test.YtcpfbemmlmdcaaaDoorLxR
import Derived.Deep.RegionHeldLaw
import Derived.Deep.AppendLies
import Derived.StillTactics
set_option linter.unusedSimpArgs false
set_option linter.unusedVariables false
namespace Go.Proofs.YtcpfbemmlmdcaaaDoor.Lx
open Go.RowKit Go.ChangeShapes Go.WideShapes Go.Proofs.YtcpfbemmlmdcaaaDoor.Sl

theorem rlines_big (s : ByteArray) (w : World) (hs : 65536 < s.size) :
    Calls Tryd.prog 21 #[.string s] w fun e w' => e = .returned (linV (.slice none 0 0) (0, 0) 5) ∧ Below w.heap.size w w' := by
  go_enter Tryd.func21, Tryd.ntmps21
  go_wp2
  refine bodyPost_ret (by simp [results, Tryd.results21, go_sem]; try rfl) rfl ?_
  exact ⟨rfl, by go_grown⟩

theorem RInv.far {B P R : Nat} {w : World} {out line : Value} {acc : List (List Tok)} {ws : List Tok} (h : RInv B P w out acc line ws) (hR : R < B) : some R ≠ line.ownBlock ∧ some R ≠ out.ownBlock := by
  obtain ⟨⟨hs, h1, h2⟩, h3, h4, h5⟩ := h
  exact ⟨fun e => by have := (h4.lt R e.symm).1; omega, fun e => by have := (h1.lt R e.symm).1; omega⟩
theorem pos_new (w : World) (a b : Int) (t : TypeId) : PosAt (w.alloc (.cells #[.int .i64 a, .int .i64 b] t)) w.heap.size a b := by
  obtain ⟨w1, hw⟩ : ∃ w1, w1 = w.alloc (.cells #[.int .i64 a, .int .i64 b] t) := ⟨_, rfl⟩
  have hh : w1.heap[w.heap.size]? = some (.cells #[.int .i64 a, .int .i64 b] t (0, 0)) := by rw [hw]; exact Go.heap_alloc_new w _
  rw [← hw]
  refine ⟨?_, ?_, ?_, ?_⟩
  · rw [cell_of_row _ _ _ _ _ _ hh]; rfl
  · rw [cell_of_row _ _ _ _ _ _ hh]; rfl
  · simp [World.frozen?, hh]
  · simp [World.frozen?, hh]

/-- append(s, x) of ONE element: what stays of other blocks. -/
theorem wpList_app3 {P : Program} {ops : Array Oper} {rest : List Oper} {o : Oper} {a : Act} {Q : Exit → Act → World → Prop} {wX : World} (B : Nat) (hB : B ≤ wX.heap.size) (hgd : o.guard = none) (s x : Operand) (t : TypeId)
    (ho : o.op = .call { callee := .builtin .append, args := #[s, x], argTypes := #[t, t] })
    (e : TypeId) {i : TypeInfo} {z : Value} {size bytes : Nat} (ht : P.underlying t = some (.slice e)) (hi : P.info? e = some i) (hz : i.zero = some z)
    (hsize : i.size = size) (hby : i.bytes = bytes) (hzs : z.cells.size = size) (hsz : 0 < size)
    (v : Value) (n : Nat) (xs : List Value) (hs : a.eval s = v) (cs : List Value) (te : TypeId) (hown : wX.ownsRow B e size v n xs)
    {H : Nat} (hx : a.eval x = .slice (some ⟨H, 0, none⟩) 1 1) (hH : wX.heap.size = H) (hl : cs.length = size) (h1 : ∀ u ∈ cs, u.oneCell' = true)
    (h63 : n + 1 ≤ maxLen) (hbytes : (n + 1) * bytes ≤ 140737488355328)
    (h : ∀ g cap w', w'.ownsRow B e size (.slice (some ⟨g, 0, none⟩) (n + 1) cap) (n + 1) (xs ++ cs) → wX.grownBy w' v.ownBlock → (v.ownBlock = some g ∨ wX.heap.size ≤ g) → wpList P ops Q rest (a.put o.dst (.slice (some ⟨g, 0, none⟩) (n + 1) cap)) w') :
    wpList P ops Q (o :: rest) a (wX.alloc (.cells cs.toArray te)) := by
  subst hH
  refine wpList_append_lies _ hgd s x t ho B e i z size bytes ht hi hz hsize hby hzs hsz v n xs hs (hown.alloc _) ⟨wX.heap.size, 0, none⟩ 1 1 cs hx (by omega) (cells_new wX cs te) h1 (by omega) h63 hbytes (by simp; omega) (wX.heap.size + 1) (by simp) ?_
  intro g cap w' h2 h3 h4 _
  refine h g cap w' h2 ((World.grownBy_alloc wX _ _).trans h3) ?_
  rcases h4 with h4 | h4
  · exact .inl h4
  · exact .inr (by omega)
theorem RInv.base {B P : Nat} {w : World} {out line : Value} {acc : List (List Tok)} {ws : List Tok} (h : RInv B P w out acc line ws) : (∀ k, line.ownBlock = some k → B ≤ k) ∧ (∀ k, out.ownBlock = some k → B ≤ k) := by
  obtain ⟨⟨hs, h1, h2⟩, h3, h4, h5⟩ := h
  exact ⟨fun k e => (h4.lt k e).1, fun k e => (h1.lt k e).1⟩
theorem RInv.keptR {B P R : Nat} {w w' : World} {out line : Value} {acc : List (List Tok)} {ws : List Tok} (h : RInv B P w out acc line ws) (hR : R < B) (hg : w.grownBy w' (some R)) : RInv B P w' out acc line ws := by
  obtain ⟨⟨hs, h1, h2⟩, h3, h4, h5⟩ := h
  have key : ∀ {x : Value} {e : TypeId} {size n : Nat} {xs : List Value}, w.ownsRow B e size x n xs → w'.ownsRow B e size x n xs := by
    intro x e size n xs hx
    refine hx.kept hg (.inr fun e => ?_)
    have := (hx.lt R e).1
    omega
  exact ⟨⟨hs, key h1, fun j x l hx hl => ⟨key (h2 j x l hx hl).1, (h2 j x l hx hl).2⟩⟩, h3, key h4, h5⟩
theorem cells_tok (c : UInt8) (k q : Nat) : cellsT [((⟨#[c]⟩ : ByteArray), k + 1, q + 1)] = [.string ⟨#[c]⟩, .int .i64 ((k : Int) + 1), .int .i64 ((q : Int) + 1)] := by
  rw [cellsT_one]; simp [tokV]
theorem cast1 (k : Nat) : (((k + 1 : Nat) : Int) + 1) = (k : Int) + 1 + 1 := by omega

set_option maxRecDepth 20000 in
set_option maxHeartbeats 4000000 in
theorem rlines_ok (s : ByteArray) (w : World) (hs : s.size ≤ 65536) :
    Calls Tryd.prog 21 #[.string s] w fun e w' => ∃ v, e = .returned (linV v (linesR s).2.1 (linesR s).2.2) ∧ Ls w' v (linesR s).1 ∧ Below w.heap.size w w' := by
  have HLR := Lib.hid (lineRun_lines s hs)
  go_enter Tryd.func21, Tryd.ntmps21
  go_wp2
  go_loopw [5, 6, 8, 9, 10] (fun out line cm ins i wx => ∃ (j k q : Nat) (st : St) (acc : List (List Tok)), j ≤ s.size ∧ k ≤ j ∧ q ≤ j ∧ st.words.length ≤ j ∧ acc.length ≤ j ∧ (∀ t ∈ st.words, t.1.size ≤ j) ∧ (st.opened = true → st.words ≠ []) ∧ i = .int .i64 j ∧ cm = .bool st.comment ∧ ins = .bool st.opened ∧ lineRun s.data.toList 0 0 ⟨[], false, false⟩ [] = lineRun (s.data.toList.drop j) k q st acc ∧ RInv (w.heap.size + 1) (w.heap.size + 1) wx out acc line st.words ∧ PosAt wx (w.heap.size + 1) ((k : Int) + 1) ((q : Int) + 1) ∧ PosAt wx w.heap.size 0 0 ∧ Below w.heap.size w wx) (fun _ _ _ _ i _ => s.size - (intOf i).toNat)
  case atStart =>
    have p1 := pos_new (w.alloc (.cells #[.int .i64 0, .int .i64 0] 38)) 1 1 38
    have p0 := (pos_new w 0 0 38).kept (World.grownBy_alloc _ (.cells #[.int .i64 1, .int .i64 1] 38) none) (by simp)
    have e : (w.alloc (.cells #[.int .i64 0, .int .i64 0] 38)).heap.size = w.heap.size + 1 := by simp
    rw [e] at p1
    exact ⟨0, 0, 0, ⟨[], false, false⟩, [], Nat.zero_le _, Nat.le_refl _, Nat.le_refl _, Nat.le_refl _, Nat.le_refl _, fun t ht => by simp at ht, fun h => by simp at h, rfl, rfl, rfl, rfl, RInv.start _ _ _, p1, p0, by go_grown⟩
  case round =>
    obtain ⟨j, k, q, st, acc, hj, hkj, hqj, hwl, hal, htl, hop, rfl, rfl, rfl, hf, hI, hP, hR, hL⟩ := hrel
    have HF := Lib.hid hf
    have HI := Lib.hid hI
    have HP := Lib.hid hP
    have HR := Lib.hid hR
    have HTL := Lib.hid htl
    have HOP := Lib.hid hop
    obtain ⟨c0, c1, f0, f1⟩ := hP
    obtain ⟨r0, r1, rf0, rf1⟩ := hR
    have hPs : w.heap.size + 1 < wr.heap.size := block_of_cell c0
    obtain ⟨hfl, hfo⟩ := hI.far (R := w.heap.size) (by omega)
    have HFL := Lib.hid hfl
    have HFO := Lib.hid hfo
    have hnn : ¬ w.heap.size = w.heap.size + 1 := by omega
    clear hf hI htl hop hfl hfo
    by_cases hlt : j < s.size
    · obtain ⟨c, hc, hs0⟩ := byte_at s j hlt
      have HS := Lib.hid hs0
      clear hs0
      by_cases h10 : c = 10
      · have H10 := Lib.hid h10
        have b10 : c.toNat = 10 := by rw [h10]; rfl
        have HX := Lib.hid (HF.out.trans (lineRun_nl _ j k q st acc c HS.out h10))
        clear h10
        by_cases hws : st.words = []
        · have HI2 := Lib.hid (show RInv (w.heap.size + 1) (w.heap.size + 1) wr u5 acc (.slice none 0 0) [] from HI.out.fresh)
          obtain ⟨ad, cap, hu6⟩ := (Sl.of_owns HI.out.2.2.1).form
          have hu6' : u6 = .slice ad 0 cap := by rw [hu6, hws]; rfl
          clear hu6
          subst hu6'
          have HX2 := Lib.hid (show lineRun s.data.toList 0 0 ⟨[], false, false⟩ [] = lineRun (s.data.toList.drop (j + 1)) (k + 1) 0 ⟨[], false, false⟩ acc by rw [HX.out]; simp [addLine, hws])
          clear HX HI hws
          go_wp2
          go_roundw
          case rel =>
            refine ⟨j + 1, k + 1, 0, ⟨[], false, false⟩, acc, by omega, by omega, by omega, Nat.zero_le _, by omega, fun t ht => by simp at ht, fun h => by simp at h, by go_num, rfl, rfl, HX2.out, ?_, ?_, ?_, ?_⟩
            · exact HI2.out.kept (by repeat (first | exact gp_refl _ _ | apply gp_set | apply gp_drew | apply gp_alloc))
            · rw [cast1, show (((0 : Nat) : Int) + 1) = 1 from rfl]; exact HP.out.both _ _
            · exact HR.out.kept (row := some (w.heap.size + 1)) (by repeat (first | exact gp_refl _ _ | apply gp_set | apply gp_drew | apply gp_alloc)) (by simp)
            · go_grown
          case measure => simp [intOf]; omega
        · obtain ⟨⟨hs0, o1, o2⟩, o3, o4, o5⟩ := HI.out
          obtain ⟨g0, cap0, hu6, _, _⟩ := o4.form (List.length_pos_iff.2 hws)
          have hu6' : u6 = .slice (some ⟨g0, 0, none⟩) st.words.length cap0 := hu6
          clear hu6
          subst hu6'
          have hwp : 0 < st.words.length := List.length_pos_iff.2 hws
          obtain ⟨N, hN⟩ : ∃ N, N = st.words.length := ⟨_, rfl⟩
          have HN := Lib.hid hN
          rw [← hN] at hwp hwl
          have HX2 := Lib.hid (show lineRun s.data.toList 0 0 ⟨[], false, false⟩ [] = lineRun (s.data.toList.drop (j + 1)) (k + 1) 0 ⟨[], false, false⟩ (acc ++ [st.words]) by rw [HX.out]; simp [addLine, hws])
          have O1 := Lib.hid o1
          have O2 := Lib.hid o2
          have O3 := Lib.hid o3
          have O4 := Lib.hid o4
          have O5 := Lib.hid o5
          have hob := Lib.hid HI.out.base.2
          clear HX HI hws o1 o2 o3 o4 o5
          rw [← hN]
          clear hN
          obtain ⟨ii, hi, hz0, hz1, hz2⟩ := info_parts info_toks
          go_upto_region 15 with (at_builtin; go_must (refine wpList_app3 (wX := wr) (w.heap.size + 1) (by omega) rfl (.tmp 31) (.tmp 33) 36 rfl 59 Tryd.underlying36 hi hz0 hz1 hz2 rfl (by decide) u5 acc.length hs0 rfl [.slice (some ⟨g0, 0, none⟩) N cap0] 59 O1.out rfl (by simp) rfl (by intro u hu; simp at hu; subst hu; rfl) (by unfold maxLen; omega) (by omega) ?_); intro g1 cap1 w2 hown2 hgr hG)
          have HP2 := HP.out.kept hgr (Ne.symm O3.out)
          have HR2 := Lib.hid (HR.out.kept hgr HFO.out)
          have HL2 := grow_step hL hgr (fun k hk => by have := hob.out k hk; omega)
          have HP3 := Lib.hid HP2
          obtain ⟨d0, d1, e0, e1⟩ := HP2
          have HI2 := Lib.hid (RInv.more (line := .slice (some ⟨g0, 0, none⟩) st.words.length cap0) (ws := st.words) hPs O1.out O2.out O3.out O4.out O5.out (by rw [← HN.out]; exact hown2) hgr hG)
          have hPs2 : w.heap.size + 1 < w2.heap.size := block_of_cell d0
          clear hown2 hgr hG
          go_wp2
          go_roundw
          case rel =>
            refine ⟨j + 1, k + 1, 0, ⟨[], false, false⟩, acc ++ [st.words], by omega, by omega, by omega, Nat.zero_le _, by (rw [List.length_append]; simp; omega), fun t ht => by simp at ht, fun h => by simp at h, by go_num, rfl, rfl, HX2.out, ?_, ?_, ?_, ?_⟩
            · exact HI2.out.kept (by repeat (first | exact gp_refl _ _ | apply gp_set | apply gp_drew | apply gp_alloc))
            · rw [cast1, show (((0 : Nat) : Int) + 1) = 1 from rfl]; exact HP3.out.both _ _
            · exact HR2.out.kept (row := some (w.heap.size + 1)) (by repeat (first | exact gp_refl _ _ | apply gp_set | apply gp_drew | apply gp_alloc)) (by simp)
            · exact ((HL2.setCell (p := ⟨w.heap.size + 1, 0, none⟩) (Nat.le_succ _) _).setCell (p := ⟨w.heap.size + 1, 1, none⟩) (Nat.le_succ _) _)
          case measure => simp [intOf]; omega
      · have h10n : ¬ c.toNat = 10 := fun e => h10 (UInt8.toNat_inj.1 e)
        have b10 : ((c.toNat : Int) == 10) = false := by simp; omega
        by_cases hb : badC c = true
        · have hx : ¬ c.toNat = 9 ∧ (c.toNat < 32 ∨ 126 < c.toNat) := by simpa [badC] using hb
          obtain ⟨h9, hx⟩ := hx
          have hv : linesR s = ([], (k + 1, q + 1), 3) := by rw [HLR.out, HF.out, lineRun_bad _ j k q st acc c HS.out h10 hb]; rfl
          have HV := Lib.hid hv
          clear hv hb h10 h10n
          have n9 : ((c.toNat : Int) != 9) = true := by simp; omega
          have n32 : ((c.toNat : Int) != 32) = true := by simp; omega
          have hpc := HR.out.both ((k : Int) + 1) ((q : Int) + 1)
          rcases hx with hx | hx
          · go_wp2
            go_region
            go_wp2
            rw [HV.out]
            refine bodyPost_ret (v := linV (.slice none 0 0) (k + 1, q + 1) 3) (by simp [results, Tryd.results21, go_sem, hpc.1, hpc.2.1]; try rfl) rfl ?_
            exact ⟨_, rfl, Ls.nil _ _ _, by go_grown⟩
          · have hlo : ¬ c.toNat < 33 := by omega
            go_wp2
            go_region
            go_wp2
            rw [HV.out]
            refine bodyPost_ret (v := linV (.slice none 0 0) (k + 1, q + 1) 3) (by simp [results, Tryd.results21, go_sem, hpc.1, hpc.2.1]; try rfl) rfl ?_
            exact ⟨_, rfl, Ls.nil _ _ _, by go_grown⟩
        · have HX := Lib.hid (HF.out.trans (lineRun_step _ j k q st acc c HS.out h10 hb))
          have hnb : c.toNat = 9 ∨ c.toNat = 32 ∨ (c.toNat = 35) ∨ (¬ c.toNat = 9 ∧ ¬ c.toNat = 32 ∧ ¬ c.toNat = 35 ∧ 33 ≤ c.toNat ∧ c.toNat ≤ 126) := by
            simp [badC] at hb; omega
          obtain ⟨ws, cm, op⟩ := st
          simp only at hwl HI HTL HOP HX ⊢
          clear hb h10 h10n
          rcases hnb with h9 | h32 | h35 | ⟨h9, h32, h35, hlo, hhi⟩
          · have hcm : cm = true ∨ cm = false := by cases cm; exact .inr rfl; exact .inl rfl
            rcases hcm with rfl | rfl
            · have HX2 := Lib.hid (show lineRun s.data.toList 0 0 ⟨[], false, false⟩ [] = lineRun (s.data.toList.drop (j + 1)) k (q + 1) ⟨ws, true, false⟩ acc by rw [HX.out]; simp [stepC, offC, h9])
              clear HX
              go_wp2
              go_roundw
              case rel =>
                refine ⟨j + 1, k, q + 1, ⟨ws, _, false⟩, acc, by omega, by omega, by omega, by (show ws.length ≤ j + 1; omega), by omega, fun t ht => by have := HTL.out t ht; omega, fun h => by simp at h, by go_num, by first | rfl | simp, rfl, HX2.out, ?_, ?_, ?_, ?_⟩
                · exact HI.out.kept (by repeat (first | exact gp_refl _ _ | apply gp_set | apply gp_drew | apply gp_alloc))
                · rw [cast1]; exact HP.out.col _
                · exact HR.out.kept (row := some (w.heap.size + 1)) (by repeat (first | exact gp_refl _ _ | apply gp_set | apply gp_drew | apply gp_alloc)) (by simp)
                · exact hL.setCell (p := ⟨w.heap.size + 1, 1, none⟩) (Nat.le_succ _) _
              case measure => simp [intOf]; omega
            · have HX2 := Lib.hid (show lineRun s.data.toList 0 0 ⟨[], false, false⟩ [] = lineRun (s.data.toList.drop (j + 1)) k (q + 1) ⟨ws, false, false⟩ acc by rw [HX.out]; simp [stepC, offC, h9])
              clear HX
              go_wp2
              go_roundw
              case rel =>
                refine ⟨j + 1, k, q + 1, ⟨ws, _, false⟩, acc, by omega, by omega, by omega, by (show ws.length ≤ j + 1; omega), by omega, fun t ht => by have := HTL.out t ht; omega, fun h => by simp at h, by go_num, by first | rfl | simp, rfl, HX2.out, ?_, ?_, ?_, ?_⟩
                · exact HI.out.kept (by repeat (first | exact gp_refl _ _ | apply gp_set | apply gp_drew | apply gp_alloc))
                · rw [cast1]; exact HP.out.col _
                · exact HR.out.kept (row := some (w.heap.size + 1)) (by repeat (first | exact gp_refl _ _ | apply gp_set | apply gp_drew | apply gp_alloc)) (by simp)
                · exact hL.setCell (p := ⟨w.heap.size + 1, 1, none⟩) (Nat.le_succ _) _
              case measure => simp [intOf]; omega
          · have hcm : cm = true ∨ cm = false := by cases cm; exact .inr rfl; exact .inl rfl
            rcases hcm with rfl | rfl
            · have HX2 := Lib.hid (show lineRun s.data.toList 0 0 ⟨[], false, false⟩ [] = lineRun (s.data.toList.drop (j + 1)) k (q + 1) ⟨ws, true, false⟩ acc by rw [HX.out]; simp [stepC, offC, h32])
              clear HX
              go_wp2
              go_roundw
              case rel =>
                refine ⟨j + 1, k, q + 1, ⟨ws, _, false⟩, acc, by omega, by omega, by omega, by (show ws.length ≤ j + 1; omega), by omega, fun t ht => by have := HTL.out t ht; omega, fun h => by simp at h, by go_num, by first | rfl | simp, rfl, HX2.out, ?_, ?_, ?_, ?_⟩
                · exact HI.out.kept (by repeat (first | exact gp_refl _ _ | apply gp_set | apply gp_drew | apply gp_alloc))
                · rw [cast1]; exact HP.out.col _
                · exact HR.out.kept (row := some (w.heap.size + 1)) (by repeat (first | exact gp_refl _ _ | apply gp_set | apply gp_drew | apply gp_alloc)) (by simp)
                · exact hL.setCell (p := ⟨w.heap.size + 1, 1, none⟩) (Nat.le_succ _) _
              case measure => simp [intOf]; omega
            · have HX2 := Lib.hid (show lineRun s.data.toList 0 0 ⟨[], false, false⟩ [] = lineRun (s.data.toList.drop (j + 1)) k (q + 1) ⟨ws, false, false⟩ acc by rw [HX.out]; simp [stepC, offC, h32])
              clear HX
              go_wp2
              go_roundw
              case rel =>
                refine ⟨j + 1, k, q + 1, ⟨ws, _, false⟩, acc, by omega, by omega, by omega, by (show ws.length ≤ j + 1; omega), by omega, fun t ht => by have := HTL.out t ht; omega, fun h => by simp at h, by go_num, by first | rfl | simp, rfl, HX2.out, ?_, ?_, ?_, ?_⟩
                · exact HI.out.kept (by repeat (first | exact gp_refl _ _ | apply gp_set | apply gp_drew | apply gp_alloc))
                · rw [cast1]; exact HP.out.col _
                · exact HR.out.kept (row := some (w.heap.size + 1)) (by repeat (first | exact gp_refl _ _ | apply gp_set | apply gp_drew | apply gp_alloc)) (by simp)
                · exact hL.setCell (p := ⟨w.heap.size + 1, 1, none⟩) (Nat.le_succ _) _
              case measure => simp [intOf]; omega
          · have hcm : cm = true ∨ cm = false := by cases cm; exact .inr rfl; exact .inl rfl
            have HX2 := Lib.hid (show lineRun s.data.toList 0 0 ⟨[], false, false⟩ [] = lineRun (s.data.toList.drop (j + 1)) k (q + 1) ⟨ws, true, false⟩ acc by rw [HX.out]; simp [stepC, offC, h35])
            clear HX
            rcases hcm with rfl | rfl
            · go_wp2
              go_roundw
              case rel =>
                refine ⟨j + 1, k, q + 1, ⟨ws, _, false⟩, acc, by omega, by omega, by omega, by (show ws.length ≤ j + 1; omega), by omega, fun t ht => by have := HTL.out t ht; omega, fun h => by simp at h, by go_num, by first | rfl | simp, rfl, HX2.out, ?_, ?_, ?_, ?_⟩
                · exact HI.out.kept (by repeat (first | exact gp_refl _ _ | apply gp_set | apply gp_drew | apply gp_alloc))
                · rw [cast1]; exact HP.out.col _
                · exact HR.out.kept (row := some (w.heap.size + 1)) (by repeat (first | exact gp_refl _ _ | apply gp_set | apply gp_drew | apply gp_alloc)) (by simp)
                · exact hL.setCell (p := ⟨w.heap.size + 1, 1, none⟩) (Nat.le_succ _) _
              case measure => simp [intOf]; omega
            · go_wp2
              go_roundw
              case rel =>
                refine ⟨j + 1, k, q + 1, ⟨ws, _, false⟩, acc, by omega, by omega, by omega, by (show ws.length ≤ j + 1; omega), by omega, fun t ht => by have := HTL.out t ht; omega, fun h => by simp at h, by go_num, by first | rfl | simp, rfl, HX2.out, ?_, ?_, ?_, ?_⟩
                · exact HI.out.kept (by repeat (first | exact gp_refl _ _ | apply gp_set | apply gp_drew | apply gp_alloc))
                · rw [cast1]; exact HP.out.col _
                · exact HR.out.kept (row := some (w.heap.size + 1)) (by repeat (first | exact gp_refl _ _ | apply gp_set | apply gp_drew | apply gp_alloc)) (by simp)
                · exact hL.setCell (p := ⟨w.heap.size + 1, 1, none⟩) (Nat.le_succ _) _
              case measure => simp [intOf]; omega
          · -- a word's byte
            cases cm
            · have n9 : ((c.toNat : Int) != 9) = true := by simp; omega
              have n32 : ((c.toNat : Int) != 32) = true := by simp; omega
              have b9 : ((c.toNat : Int) == 9) = false := by simp; omega
              have b32 : ((c.toNat : Int) == 32) = false := by simp; omega
              have b35 : ((c.toNat : Int) == 35) = false := by simp; omega
              have hof : offC false c = false := by simp [offC]; omega
              cases op
              · have HX2 := Lib.hid (show lineRun s.data.toList 0 0 ⟨[], false, false⟩ [] = lineRun (s.data.toList.drop (j + 1)) k (q + 1) ⟨ws ++ [(⟨#[c]⟩, k + 1, q + 1)], false, true⟩ acc by rw [HX.out]; simp [stepC, hof])
                clear h9 h32 h35 hof HX
                have hE : s.extract j (j + 1) = ⟨#[c]⟩ := by rw [ext_one s j hlt, hc]
                have qw : IntKind.i64.wrap ((j : Int) + 1) = (j : Int) + 1 := by rw [IntKind.wrap_i64]; omega
                have qc : 0 ≤ (j : Int) + 1 ∧ (j : Int) + 1 ≤ (s.size : Int) := by omega
                have q1 : (j : Int) ≤ (j : Int) + 1 := by omega
                obtain ⟨ii, hi, hz0, hz1, hz2⟩ := info_parts info_tok
                obtain ⟨N, hN⟩ : ∃ N, N = ws.length := ⟨_, rfl⟩
                have hown : wr.ownsRow (w.heap.size + 1) 61 3 u6 N (cellsT ws) := by rw [hN]; exact HI.out.2.2.1
                have HN := Lib.hid hN
                have hwl' : N ≤ j := by rw [hN]; exact hwl
                have hneP : u6.ownBlock ≠ some (w.heap.size + 1) := by
                  rcases HI.out.2.2.2 with h | h
                  · rw [h]; simp
                  · exact h.2
                have HNP := Lib.hid hneP
                have HOW := Lib.hid hown
                have hob := Lib.hid HI.out.base.1
                clear hN hown hneP hwl
                go_upto_region 28 with fail
                go_region_held_law (fun w' => w'.cell? ⟨w.heap.size + 1, 0, none⟩ = some (.int .i64 ((k : Int) + 1)) ∧ w'.cell? ⟨w.heap.size + 1, 1, none⟩ = some (.int .i64 ((q : Int) + 1))) (first | go_keep | (go_split_ands; refine ⟨?_, ?_⟩ <;> (rw [hgr.cell_far _ (by simp; omega) (Ne.symm HNP.out)]; assumption))) ((refine step_append_lies _ (by rfl) _ _ _ (by rfl) (w.heap.size + 1) 61 ii _ 3 32 Tryd.underlying59 hi hz0 hz1 hz2 rfl (by decide) u6 N (cellsT ws) (by rfl) ((HOW.out.alloc _).drew) ⟨wr.heap.size, 0, none⟩ 1 1 [.string ⟨#[c]⟩, .int .i64 ((k : Int) + 1), .int .i64 ((q : Int) + 1)] (by rfl) (by rfl) (World.news_of_block (cs := #[.string ⟨#[c]⟩, .int .i64 ((k : Int) + 1), .int .i64 ((q : Int) + 1)]) (t := 61) (fr := (0, 0)) (heap_alloc_new wr _)) (by simp [Value.oneCell']) (by omega) (by unfold maxLen; omega) (by omega) (by simp; omega) (wr.heap.size + 1) (by simp) ?_; intro g1 cap1 w2 hown2 hgr hG hlt2))
                have hgr2 : wr.grownBy w2 u6.ownBlock := (gp_drew (gp_alloc (gp_refl wr _) _)).trans hgr
                have hG2 : u6.ownBlock = some g1 ∨ wr.heap.size ≤ g1 := hG.imp id (fun h => by omega)
                have HP2 := HP.out.kept hgr2 (Ne.symm HNP.out)
                have HR2 := Lib.hid (HR.out.kept hgr2 HFL.out)
                have HL2 := grow_step hL hgr2 (fun k hk => by have := hob.out k hk; omega)
                have HI2 := Lib.hid (RInv.line HI.out hgr2 hPs (ws' := ws ++ [((⟨#[c]⟩ : ByteArray), k + 1, q + 1)]) (by rw [List.length_append, ← HN.out, cellsT_app, cells_tok]; exact hown2) rfl hG2)
                have HP3 := Lib.hid HP2
                obtain ⟨d0, d1, e0, e1⟩ := HP2
                have hPs2 : w.heap.size + 1 < w2.heap.size := block_of_cell d0
                clear hown2 hgr hG hgr2 hG2
                go_wp2
                go_roundw
                case rel =>
                  refine ⟨j + 1, k, q + 1, ⟨ws ++ [((⟨#[c]⟩ : ByteArray), k + 1, q + 1)], false, true⟩, acc, by omega, by omega, by omega, by (show (ws ++ [((⟨#[c]⟩ : ByteArray), k + 1, q + 1)]).length ≤ j + 1; rw [List.length_append, ← HN.out]; simp; omega), by omega, ?_, fun _ h => by simp at h, by go_num, rfl, rfl, HX2.out, ?_, ?_, ?_, ?_⟩
                  · intro t2 ht2
                    rcases List.mem_append.1 ht2 with h | h
                    · have := HTL.out t2 h; omega
                    · have e := List.mem_singleton.1 h
                      rw [e]
                      show 1 ≤ j + 1
                      omega
                  · exact HI2.out.kept (by repeat (first | exact gp_refl _ _ | apply gp_set | apply gp_drew | apply gp_alloc))
                  · rw [cast1]; exact HP3.out.col _
                  · exact HR2.out.kept (row := some (w.heap.size + 1)) (by repeat (first | exact gp_refl _ _ | apply gp_set | apply gp_drew | apply gp_alloc)) (by simp)
                  · exact HL2.setCell (p := ⟨w.heap.size + 1, 1, none⟩) (Nat.le_succ _) _
                case measure => simp [intOf]; omega
              · have hwne := HOP.out rfl
                obtain ⟨ws', t, rfl⟩ := snoc_of ws hwne
                have HX2 := Lib.hid (show lineRun s.data.toList 0 0 ⟨[], false, false⟩ [] = lineRun (s.data.toList.drop (j + 1)) k (q + 1) ⟨ws' ++ [(t.1 ++ ⟨#[c]⟩, t.2)], false, true⟩ acc by rw [HX.out]; simp [stepC, hof, addLast_snoc])
                clear h9 h32 h35 hof HX hwne
                obtain ⟨N, hN⟩ : ∃ N, N = ws'.length := ⟨_, rfl⟩
                have hown : wr.ownsRow (w.heap.size + 1) 61 3 u6 (N + 1) (cellsT (ws' ++ [t])) := by have := HI.out.2.2.1; rw [List.length_append, ← hN] at this; exact this
                obtain ⟨g0, cap, rfl, hg1, hg2⟩ := hown.form (by omega)
                have cN : wr.cell? ⟨g0, N * 3, none⟩ = some (.string t.1) := by rw [hown.cellAt _ (by omega), hN]; exact cellsT_last ws' t
                have fN : wr.frozen? ⟨g0, N * 3, none⟩ = false := hown.frozenAt _
                have tb : t.1.size ≤ j := HTL.out t (by simp)
                have hE : s.extract j (j + 1) = ⟨#[c]⟩ := by rw [ext_one s j hlt, hc]
                have hwl' : N + 1 ≤ j := by rw [List.length_append, ← hN] at hwl; exact hwl
                have HOW := Lib.hid hown
                have HN := Lib.hid hN
                have hneP : ¬ g0 = w.heap.size + 1 := by
                  rcases HI.out.2.2.2 with h | h
                  · cases h
                  · intro e; exact h.2 (by rw [e]; rfl)
                have qw : IntKind.i64.wrap ((j : Int) + 1) = (j : Int) + 1 := by rw [IntKind.wrap_i64]; omega
                have qc : 0 ≤ (j : Int) + 1 ∧ (j : Int) + 1 ≤ (s.size : Int) := by omega
                have HFL2 := HFL
                clear hwl hown hN
                go_wp2
                go_region
                go_wp2
                go_roundw
                case rel =>
                  have hst := HOW.out.stored (N * 3) (.string (t.1 ++ ⟨#[c]⟩))
                  have hset := hst.1
                  rw [HN.out, cellsT_set, ← HN.out] at hset
                  have hgr2 := hst.2
                  have HI2 := RInv.line HI.out hgr2 hPs (ws' := ws' ++ [(t.1 ++ ⟨#[c]⟩, t.2)]) (by rw [List.length_append, ← HN.out]; exact hset) rfl (.inl rfl)
                  have HP2 := HP.out.kept hgr2 (by simp; omega)
                  have HR2 := HR.out.kept hgr2 HFL.out
                  have HL2 := hL.setCell (p := ⟨g0, N * 3, none⟩) (by show w.heap.size ≤ g0; omega) (.string (t.1 ++ ⟨#[c]⟩))
                  refine ⟨j + 1, k, q + 1, ⟨ws' ++ [(t.1 ++ ⟨#[c]⟩, t.2)], false, true⟩, acc, by omega, by omega, by omega, by (show (ws' ++ [(t.1 ++ ⟨#[c]⟩, t.2)]).length ≤ j + 1; rw [List.length_append, ← HN.out]; simp; omega), by omega, ?_, fun _ h => by simp at h, by go_num, rfl, rfl, HX2.out, ?_, ?_, ?_, ?_⟩
                  · intro t2 ht2
                    rcases List.mem_append.1 ht2 with h | h
                    · have := HTL.out t2 (List.mem_append_left _ h); omega
                    · have e := List.mem_singleton.1 h
                      rw [e]
                      show (t.1 ++ ⟨#[c]⟩).size ≤ j + 1
                      rw [ByteArray.size_append]
                      show t.1.size + 1 ≤ j + 1
                      omega
                  · exact HI2.kept (by repeat (first | exact gp_refl _ _ | apply gp_set | apply gp_drew | apply gp_alloc))
                  · rw [cast1]; exact (HP2.col _).kept (row := none) (by repeat (first | exact gp_refl _ _ | apply gp_drew | apply gp_alloc)) (by simp)
                  · exact HR2.kept (row := some (w.heap.size + 1)) (by repeat (first | exact gp_refl _ _ | apply gp_set | apply gp_drew | apply gp_alloc)) (by simp)
                  · first | exact HL2.setCell (p := ⟨w.heap.size + 1, 1, none⟩) (Nat.le_succ _) _ | exact (HL2.setCell (p := ⟨w.heap.size + 1, 1, none⟩) (Nat.le_succ _) _).drew | exact HL2.drew.setCell (p := ⟨w.heap.size + 1, 1, none⟩) (Nat.le_succ _) _
                case measure => simp [intOf]; omega
            · have HX2 := Lib.hid (show lineRun s.data.toList 0 0 ⟨[], false, false⟩ [] = lineRun (s.data.toList.drop (j + 1)) k (q + 1) ⟨ws, true, false⟩ acc by rw [HX.out]; simp [stepC, offC])
              have b35 : ((c.toNat : Int) == 35) = false := by simp; omega
              have n9 : ((c.toNat : Int) != 9) = true := by simp; omega
              have n32 : ((c.toNat : Int) != 32) = true := by simp; omega
              clear HX h9 h32 h35
              go_wp2
              go_roundw
              case rel =>
                refine ⟨j + 1, k, q + 1, ⟨ws, _, false⟩, acc, by omega, by omega, by omega, by (show ws.length ≤ j + 1; omega), by omega, fun t ht => by have := HTL.out t ht; omega, fun h => by simp at h, by go_num, by first | rfl | simp, rfl, HX2.out, ?_, ?_, ?_, ?_⟩
                · exact HI.out.kept (by repeat (first | exact gp_refl _ _ | apply gp_set | apply gp_drew | apply gp_alloc))
                · rw [cast1]; exact HP.out.col _
                · exact HR.out.kept (row := some (w.heap.size + 1)) (by repeat (first | exact gp_refl _ _ | apply gp_set | apply gp_drew | apply gp_alloc)) (by simp)
                · exact hL.setCell (p := ⟨w.heap.size + 1, 1, none⟩) (Nat.le_succ _) _
              case measure => simp [intOf]; omega
    · have hv : linesR s = (addLine acc st.words, (0, 0), 0) := by rw [HLR.out, HF.out, lineRun_end _ j k q st acc (by rw [len_is]; omega)]; rfl
      have HV := Lib.hid hv
      clear hv
      by_cases hws : st.words = []
      · obtain ⟨ad, cap, hu6⟩ := (Sl.of_owns HI.out.2.2.1).form
        have hu6' : u6 = .slice ad 0 cap := by rw [hu6, hws]; rfl
        clear hu6
        subst hu6'
        have HV2 := Lib.hid (show linesR s = (acc, (0, 0), 0) by rw [HV.out]; simp [addLine, hws])
        have hpc := HR.out.both 0 0
        clear hws
        go_wp2
        rw [HV2.out]
        refine bodyPost_ret (v := linV u5 (0, 0) 0) (by simp [results, Tryd.results21, go_sem, hpc.1, hpc.2.1]; try rfl) rfl ?_
        refine ⟨_, rfl, ?_, ?_⟩
        · exact (HI.out.keptR (R := w.heap.size) (by omega) (by repeat (first | exact gp_refl _ _ | apply gp_set | apply gp_drew | apply gp_alloc))).ls
        · exact (hL.setCell (p := ⟨w.heap.size, 0, none⟩) (Nat.le_refl _) _).setCell (p := ⟨w.heap.size, 1, none⟩) (Nat.le_refl _) _
      · obtain ⟨⟨hs0, o1, o2⟩, o3, o4, o5⟩ := HI.out
        obtain ⟨g0, cap0, hu6, _, _⟩ := o4.form (List.length_pos_iff.2 hws)
        have hu6' : u6 = .slice (some ⟨g0, 0, none⟩) st.words.length cap0 := hu6
        clear hu6
        subst hu6'
        have hwp : 0 < st.words.length := List.length_pos_iff.2 hws
        have HV2 := Lib.hid (show linesR s = (acc ++ [st.words], (0, 0), 0) by rw [HV.out]; simp [addLine, hws])
        obtain ⟨N, hN⟩ : ∃ N, N = st.words.length := ⟨_, rfl⟩
        have HN := Lib.hid hN
        rw [← hN] at hwp hwl
        have O1 := Lib.hid o1
        have O2 := Lib.hid o2
        have O3 := Lib.hid o3
        have O4 := Lib.hid o4
        have O5 := Lib.hid o5
        have hob := Lib.hid HI.out.base.2
        clear HI hws o1 o2 o3 o4 o5
        rw [← hN]
        clear hN
        obtain ⟨ii, hi, hz0, hz1, hz2⟩ := info_parts info_toks
        go_upto_region 32 with (at_builtin; go_must (refine wpList_app3 (wX := wr) (w.heap.size + 1) (by omega) rfl (.tmp 102) (.tmp 104) 36 rfl 59 Tryd.underlying36 hi hz0 hz1 hz2 rfl (by decide) u5 acc.length hs0 rfl [.slice (some ⟨g0, 0, none⟩) N cap0] 59 O1.out rfl (by simp) rfl (by intro u hu; simp at hu; subst hu; rfl) (by unfold maxLen; omega) (by omega) ?_); intro g1 cap1 w2 hown2 hgr hG)
        have HR2 := HR.out.kept hgr HFO.out
        have HL2 := grow_step hL hgr (fun k hk => by have := hob.out k hk; omega)
        have HI2 := Lib.hid (RInv.more (line := .slice (some ⟨g0, 0, none⟩) st.words.length cap0) (ws := st.words) hPs O1.out O2.out O3.out O4.out O5.out (by rw [← HN.out]; exact hown2) hgr hG)
        have hpc := HR2.both 0 0
        obtain ⟨d0, d1, e0, e1⟩ := HR2
        clear hown2 hgr hG
        go_wp2
        rw [HV2.out]
        refine bodyPost_ret (v := linV (.slice (some ⟨g1, 0, none⟩) (acc.length + 1) cap1) (0, 0) 0) (by simp [results, Tryd.results21, go_sem, hpc.1, hpc.2.1]; try rfl) rfl ?_
        refine ⟨_, rfl, ?_, ?_⟩
        · exact (HI2.out.keptR (R := w.heap.size) (by omega) (by repeat (first | exact gp_refl _ _ | apply gp_set | apply gp_drew | apply gp_alloc))).ls
        · exact (HL2.setCell (p := ⟨w.heap.size, 0, none⟩) (Nat.le_refl _) _).setCell (p := ⟨w.heap.size, 1, none⟩) (Nat.le_refl _) _

theorem rlines_any (s : ByteArray) (w : World) :
    Calls Tryd.prog 21 #[.string s] w fun e w' => ∃ v, e = .returned (linV v (linesR s).2.1 (linesR s).2.2) ∧ Ls w' v (linesR s).1 ∧ Below w.heap.size w w' := by
  by_cases hs : 65536 < s.size
  · refine (rlines_big s w hs).mono ?_
    rintro e w' ⟨rfl, hb⟩
    have : linesR s = ([], (0, 0), 5) := if_pos hs
    rw [this]
    exact ⟨_, rfl, Ls.nil _ _ _, hb⟩
  · exact rlines_ok s w (by omega)

end Go.Proofs.YtcpfbemmlmdcaaaDoor.Lx
