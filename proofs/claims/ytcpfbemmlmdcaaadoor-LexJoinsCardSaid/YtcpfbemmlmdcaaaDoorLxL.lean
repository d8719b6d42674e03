/-
  The walk of layer 18's Lines, of the program civiltime.
-/
import Derived.Test.YtcpfbemmlmdcaaaDoorLxS
import Derived.Test.YtcpfbemmlmdcaaaDoorLxQ
set_option linter.unusedSimpArgs false
set_option linter.unusedVariables false
namespace Go.Proofs.YtcpfbemmlmdcaaaDoor.Lx
open Go.RowKit Go.ChangeShapes Go.WideShapes Go.Proofs.YtcpfbemmlmdcaaaDoor.Sl

def linV (v : Value) (p : Nat × Nat) (e : Nat) : Value := .tuple #[v, .agg #[.int .i64 p.1, .int .i64 p.2], .int .i64 e]

theorem lines_big (s : ByteArray) (w : World) (hs : 65536 < s.size) :
    Calls Tryd.prog 20 #[.string s] w fun e w' => e = .returned (linV (.slice none 0 0) (0, 0) 5) ∧ Below w.heap.size w w' := by
  go_enter Tryd.func20, Tryd.ntmps20
  go_wp2
  refine bodyPost_ret (by simp [results, Tryd.results20, go_sem]; try rfl) rfl ?_
  exact ⟨rfl, by go_grown⟩

theorem linesR_ok (s : ByteArray) (hs : s.size ≤ 65536) (PB : List ByteArray) (h : PB.map (·.data.toList) = splitL 10 s.data.toList) : linesR s = linOut (linesZ 0 (PB.map (·.data.toList)) []) := by
  unfold linesR
  rw [if_neg (by omega), h]
theorem start_facts (w w1 : World) (PB : List ByteArray) (hw : w1 = (w.alloc (.cells #[.int .i64 0, .int .i64 0] 38)).alloc (.cells (PB.map Value.string).toArray 9)) :
    Below w.heap.size w w1 ∧ w1.heap.size = w.heap.size + 2 ∧ (∀ (j : Nat) (p : ByteArray), PB[j]? = some p → w1.cell? ⟨w.heap.size + 1, j, none⟩ = some (.string p)) ∧
    w1.cell? ⟨w.heap.size, 0, none⟩ = some (.int .i64 0) ∧ w1.cell? ⟨w.heap.size, 1, none⟩ = some (.int .i64 0) ∧ ∀ j : Nat, w1.frozen? ⟨w.heap.size, j, none⟩ = false := by
  have hh : w1.heap[w.heap.size]? = some (.cells #[.int .i64 0, .int .i64 0] 38 (0, 0)) := by
    rw [hw, Below.heap_alloc _ _ _ (by simp)]; exact Go.heap_alloc_new w _
  refine ⟨by rw [hw]; go_grown, by rw [hw]; simp, fun j p h => ?_, ?_, ?_, fun j => ?_⟩
  · rw [hw]
    have := cells_str (w.alloc (.cells #[.int .i64 0, .int .i64 0] 38)) PB 9 j p h
    simpa using this
  · rw [cell_of_row _ _ _ _ _ _ hh]; rfl
  · rw [cell_of_row _ _ _ _ _ _ hh]; rfl
  · simp [World.frozen?, hh]
theorem splitL_len (c : UInt8) : ∀ (l : List UInt8) (q : List UInt8), q ∈ splitL c l → q.length ≤ l.length
  | [], q, h => by simp [splitL] at h; subst h; exact Nat.le_refl _
  | x :: xs, q, h => by
    unfold splitL at h
    split at h
    · rcases List.mem_cons.1 h with rfl | h
      · exact Nat.zero_le _
      · have := splitL_len c xs q h; simp; omega
    · rcases List.mem_cons.1 h with rfl | h
      · have hm : (splitL c xs).headD [] ∈ splitL c xs := by
          cases hs : splitL c xs with
          | nil => exact absurd hs (splitL_ne c xs)
          | cons a b => simp
        have := splitL_len c xs _ hm; simp only [List.length_cons]; omega
      · have := splitL_len c xs q (List.mem_of_mem_tail h); simp; omega
theorem piece_le (s : ByteArray) (PB : List ByteArray) (h : PB.map (·.data.toList) = splitL 10 s.data.toList) (j : Nat) (p : ByteArray) (hp : PB[j]? = some p) : p.size ≤ s.size := by
  have hm : p.data.toList ∈ splitL 10 s.data.toList := by rw [← h]; exact List.mem_map.2 ⟨p, List.mem_of_getElem? hp, rfl⟩
  have := splitL_len 10 _ _ hm
  have e1 : p.data.toList.length = p.size := Array.length_toList
  have e2 : s.data.toList.length = s.size := Array.length_toList
  omega

/-- What holds of the gathered lines. -/
def Out (W w : World) (v : Value) (acc : List (List Tok)) : Prop :=
  ∃ hs : List Value, w.ownsRow W.heap.size 59 1 v acc.length hs ∧ ∀ (j : Nat) (h : Value) (l : List Tok), hs[j]? = some h → acc[j]? = some l → w.ownsRow W.heap.size 61 3 h l.length (cellsT l) ∧ (h.ownBlock = none ∨ h.ownBlock ≠ v.ownBlock)

theorem own_below {B : Nat} {w w' : World} {e : TypeId} {size : Nat} {v : Value} {n : Nat} {xs : List Value} (h : w.ownsRow B e size v n xs) (hb : Below w.heap.size w w') : w'.ownsRow B e size v n xs := by
  obtain ⟨h1, h2⟩ := h
  refine ⟨h1, ?_⟩
  rcases h2 with ⟨rfl, rfl⟩ | ⟨g, cap, cur, rfl, hg, hh, h3⟩
  · exact .inl ⟨rfl, rfl⟩
  · refine .inr ⟨g, cap, cur, rfl, hg, ?_, h3⟩
    rw [hb.block g (Array.getElem?_eq_some_iff.1 hh).1]; exact hh
theorem own_base {B C : Nat} {w : World} {e : TypeId} {size : Nat} {v : Value} {n : Nat} {xs : List Value} (h : w.ownsRow B e size v n xs) (hb : C ≤ B) : w.ownsRow C e size v n xs := by
  obtain ⟨h1, h2⟩ := h
  refine ⟨h1, ?_⟩
  rcases h2 with h2 | ⟨g, cap, cur, rfl, hg, h3⟩
  · exact .inl h2
  · exact .inr ⟨g, cap, cur, rfl, Nat.le_trans hb hg, h3⟩
theorem Out.below {W w w' : World} {v : Value} {acc : List (List Tok)} (h : Out W w v acc) (hb : Below w.heap.size w w') : Out W w' v acc := by
  obtain ⟨hs, h1, h2⟩ := h
  exact ⟨hs, own_below h1 hb, fun j x l hx hl => ⟨own_below (h2 j x l hx hl).1 hb, (h2 j x l hx hl).2⟩⟩
theorem Out.nil (W w : World) : Out W w (.slice none 0 0) [] := ⟨[], World.ownsRow_nil _ _ _ _, fun j h l hj => by simp at hj⟩
theorem Out.ls {W w : World} {v : Value} {acc : List (List Tok)} (h : Out W w v acc) : Ls w v acc := by
  obtain ⟨hs, h1, h2⟩ := h
  exact ⟨hs, Sl.of_owns h1, fun j x l hx hl => Sl.of_owns (h2 j x l hx hl).1⟩
/-- One line more. -/
theorem Out.app {W w w' : World} {v u : Value} {acc : List (List Tok)} {l : List Tok} {hs : List Value} {g cap : Nat}
    (h2 : ∀ (j : Nat) (h : Value) (l : List Tok), hs[j]? = some h → acc[j]? = some l → w.ownsRow W.heap.size 61 3 h l.length (cellsT l) ∧ (h.ownBlock = none ∨ h.ownBlock ≠ v.ownBlock))
    (hl : hs.length = acc.length) (hu : w.ownsRow W.heap.size 61 3 u l.length (cellsT l)) (hne : u.ownBlock = none ∨ u.ownBlock ≠ v.ownBlock)
    (hown : w'.ownsRow W.heap.size 59 1 (.slice (some ⟨g, 0, none⟩) (acc.length + 1) cap) (acc.length + 1) (hs ++ [u])) (hg : w.grownBy w' v.ownBlock) (hG : v.ownBlock = some g ∨ w.heap.size ≤ g) :
    Out W w' (.slice (some ⟨g, 0, none⟩) (acc.length + 1) cap) (acc ++ [l]) := by
  have key : ∀ (x : Value) (q : List Tok), w.ownsRow W.heap.size 61 3 x q.length (cellsT q) → (x.ownBlock = none ∨ x.ownBlock ≠ v.ownBlock) →
      w'.ownsRow W.heap.size 61 3 x q.length (cellsT q) ∧ (x.ownBlock = none ∨ x.ownBlock ≠ some g) := by
    intro x q hx hq
    refine ⟨hx.kept hg hq, ?_⟩
    rcases hq with hq | hq
    · exact .inl hq
    · rcases hG with hG | hG
      · exact .inr (by rw [← hG]; exact hq)
      · right
        intro e
        have := (hx.lt g e).2
        omega
  refine ⟨hs ++ [u], by simpa using hown, fun j x q hx hq => ?_⟩
  by_cases hj : j < acc.length
  · rw [List.getElem?_append_left (by omega)] at hx
    rw [List.getElem?_append_left hj] at hq
    have := h2 j x q hx hq
    exact key x q this.1 this.2
  · have hj2 : j = acc.length := by
      have := (List.getElem?_eq_some_iff.1 hq).1
      simp at this; omega
    subst hj2
    rw [List.getElem?_append_right (by omega)] at hx hq
    simp [hl] at hx hq
    subst hx; subst hq
    exact key _ _ hu hne

theorem own_set {B R : Nat} {w : World} {e : TypeId} {size : Nat} {v : Value} {n : Nat} {xs : List Value} (h : w.ownsRow B e size v n xs) (hR : R < B) (j : Nat) (u : Value) : (w.setCell ⟨R, j, none⟩ u).ownsRow B e size v n xs := by
  obtain ⟨h1, h2⟩ := h
  refine ⟨h1, ?_⟩
  rcases h2 with ⟨rfl, rfl⟩ | ⟨g, cap, cur, rfl, hg, hh, h3⟩
  · exact .inl ⟨rfl, rfl⟩
  · refine .inr ⟨g, cap, cur, rfl, hg, ?_, h3⟩
    rw [Below.heap_setCell _ _ _ _ (by show g ≠ R; omega)]; exact hh
theorem Out.set {W w : World} {v : Value} {acc : List (List Tok)} {R : Nat} (h : Out W w v acc) (hR : R < W.heap.size) (j : Nat) (u : Value) : Out W (w.setCell ⟨R, j, none⟩ u) v acc := by
  obtain ⟨hs, h1, h2⟩ := h
  exact ⟨hs, own_set h1 hR j u, fun j' x l hx hl => ⟨own_set (h2 j' x l hx hl).1 hR j u, (h2 j' x l hx hl).2⟩⟩

theorem pos_cells (w : World) (R : Nat) (a b x y : Value) (h0 : w.cell? ⟨R, 0, none⟩ = some x) (h1 : w.cell? ⟨R, 1, none⟩ = some y) (f0 : w.frozen? ⟨R, 0, none⟩ = false) (f1 : w.frozen? ⟨R, 1, none⟩ = false) :
    ∀ o : Obj, ((((w.setCell ⟨R, 0, none⟩ a).setCell ⟨R, 1, none⟩ b).alloc o).cell? ⟨R, 0, none⟩ = some a) ∧ ((((w.setCell ⟨R, 0, none⟩ a).setCell ⟨R, 1, none⟩ b).alloc o).cell? ⟨R, 1, none⟩ = some b) := by
  have hR := block_of_cell h0
  intro o
  constructor
  · rw [World.cell?_alloc_old _ _ _ (by simp; omega)]; simp [go_sem, h0, h1, f0, f1]
  · rw [World.cell?_alloc_old _ _ _ (by simp; omega)]; simp [go_sem, h0, h1, f0, f1]

/-- append(s, x) of ONE element, with what stays of other blocks. -/
theorem wpList_app2 {P : Program} {ops : Array Oper} {rest : List Oper} {o : Oper} {a : Act} {Q : Exit → Act → World → Prop} {W0 wX : World} (hX : Below W0.heap.size W0 wX) (hgd : o.guard = none) (s x : Operand) (t : TypeId)
    (ho : o.op = .call { callee := .builtin .append, args := #[s, x], argTypes := #[t, t] })
    (e : TypeId) {i : TypeInfo} {z : Value} {size bytes : Nat} (ht : P.underlying t = some (.slice e)) (hi : P.info? e = some i) (hz : i.zero = some z)
    (hsize : i.size = size) (hby : i.bytes = bytes) (hzs : z.cells.size = size) (hsz : 0 < size)
    (v : Value) (n : Nat) (xs : List Value) (hs : a.eval s = v) (cs : List Value) (te : TypeId) (hown : wX.ownsRow W0.heap.size e size v n xs)
    {H : Nat} (hx : a.eval x = .slice (some ⟨H, 0, none⟩) 1 1) (hH : wX.heap.size = H) (hl : cs.length = size) (h1 : ∀ u ∈ cs, u.oneCell' = true)
    (h63 : n + 1 ≤ maxLen) (hbytes : (n + 1) * bytes ≤ 140737488355328)
    (h : ∀ g cap w', w'.ownsRow W0.heap.size e size (.slice (some ⟨g, 0, none⟩) (n + 1) cap) (n + 1) (xs ++ cs) → Below W0.heap.size W0 w' → wX.grownBy w' v.ownBlock → (v.ownBlock = some g ∨ wX.heap.size ≤ g) → wpList P ops Q rest (a.put o.dst (.slice (some ⟨g, 0, none⟩) (n + 1) cap)) w') :
    wpList P ops Q (o :: rest) a (wX.alloc (.cells cs.toArray te)) := by
  subst hH
  refine wpList_append_lies _ hgd s x t ho W0.heap.size e i z size bytes ht hi hz hsize hby hzs hsz v n xs hs (hown.alloc _) ⟨wX.heap.size, 0, none⟩ 1 1 cs hx (by omega) (cells_new wX cs te) h1 (by omega) h63 hbytes (by have := hX.size; simp; omega) (wX.heap.size + 1) (by simp) ?_
  intro g cap w' h2 h3 h4 _
  refine h g cap w' h2 (grow_step (hX.alloc hX.size _) h3 (fun k hk => (World.ownsRow.lt (hown.alloc (.cells cs.toArray te)) k hk).1)) ?_ ?_
  · have ha := World.grownBy_alloc wX (.cells cs.toArray te) v.ownBlock
    exact ⟨h3.os.trans ha.os, h3.tape.trans ha.tape, h3.output.trans ha.output, Nat.le_trans ha.size h3.size, fun k hk hne => (h3.block k (Nat.lt_of_lt_of_le hk ha.size) hne).trans (ha.block k hk hne)⟩
  · rcases h4 with h4 | h4
    · exact .inl h4
    · exact .inr (by omega)

theorem info_tok : (Tryd.prog.info? 61).map (fun i => (i.zero, i.size, i.bytes)) = some (some (.agg #[.string ⟨#[]⟩, .int .i64 0, .int .i64 0]), 3, 32) := by kernel_rfl
theorem info_toks : (Tryd.prog.info? 59).map (fun i => (i.zero, i.size, i.bytes)) = some (some (.slice none 0 0), 1, 24) := by kernel_rfl

set_option maxRecDepth 20000 in
set_option maxHeartbeats 2000000 in
theorem lines_ok (s : ByteArray) (m : Int) (w : World) (hs : s.size ≤ 65536) (hm : w.cell? ⟨0, 0, none⟩ = some (.int .i64 m)) :
    Calls Tryd.prog 20 #[.string s] w fun e w' => ∃ v, e = .returned (linV v (linesR s).2.1 (linesR s).2.2) ∧ Ls w' v (linesR s).1 ∧ Below w.heap.size w w' := by
  have hs2 : s.size < 4294967281 := by omega
  go_enter Tryd.func20, Tryd.ntmps20
  go_wp2_with (go_at_call 41; ((with_reducible refine (split_any _ _ m _ hs2 (cell_kept hm (by go_grown))).mono ?_); rintro e w1 ⟨PB, hPB, hlen, rfl, hw⟩; obtain ⟨hL, hB, hcell, r0, r1, rf⟩ := start_facts _ _ _ hw; replace hcell := Lib.hid hcell; have HPB := Lib.hid hPB; have HP := Lib.hid (linesR_ok s hs PB hPB); have HR := Lib.hid (show _ ∧ _ ∧ _ from ⟨r0, r1, rf⟩); clear hw hPB r0 r1 rf))
  go_loopw [5, 21] (fun v i wr => ∃ k : Nat, ∃ acc : List (List Tok), k ≤ PB.length ∧ acc.length ≤ k ∧ i = .int .i64 k ∧ linesZ 0 (PB.map (·.data.toList)) [] = linesZ k ((PB.map (·.data.toList)).drop k) acc ∧ Out w1 wr v acc ∧ Below w.heap.size w wr ∧ Below w1.heap.size w1 wr) (fun _ i _ => PB.length - (intOf i).toNat)
  case atStart => exact ⟨0, [], Nat.zero_le _, Nat.zero_le _, rfl, rfl, Out.nil _ _, hL, Below.refl _ _⟩
  case round =>
    obtain ⟨k, acc, hk, hak, rfl, hf, hO, hL2, hL3⟩ := hrel
    have HF := Lib.hid hf
    have HO := Lib.hid hO
    clear hf hO
    by_cases hlt : k < PB.length
    · obtain ⟨p, hp⟩ : ∃ p, PB[k]? = some p := ⟨_, List.getElem?_eq_getElem hlt⟩
      have hp' : (PB.map (·.data.toList))[k]? = some p.data.toList := by rw [List.getElem?_map, hp]; rfl
      have hps := piece_le s PB HPB.out k p hp
      have HBd := Lib.hid (fun c => linesZ_bad k c _ _ acc hp')
      have HK := Lib.hid (fun st => linesZ_ok k _ _ acc st hp')
      have c0 : wr.cell? ⟨w.heap.size + 1, k, none⟩ = some (.string p) := by rw [hL3.cell (p := ⟨w.heap.size + 1, k, none⟩) (by simp; omega)]; exact hcell.out k p hp
      clear hp hp'
      obtain ⟨wi, rfl⟩ : ∃ wi : World, wi = wr := ⟨_, rfl⟩
      go_wp2
      go_loopw [8, 9, 10, 28] (fun v cm op i wx => ∃ q : Nat, ∃ st : St, q ≤ p.size ∧ i = .int .i64 q ∧ cm = .bool st.comment ∧ op = .bool st.opened ∧ scanL (k + 1) 0 p.data.toList ⟨[], false, false⟩ = scanL (k + 1) q (p.data.toList.drop q) st ∧ wx.ownsRow wi.heap.size 61 3 v st.words.length (cellsT st.words) ∧ st.words.length ≤ q ∧ (∀ t ∈ st.words, t.1.size ≤ q) ∧ (st.opened = true → st.words ≠ []) ∧ Below wi.heap.size wi wx) (fun _ _ _ i _ => p.size - (intOf i).toNat)
      case atStart => exact ⟨0, ⟨[], false, false⟩, Nat.zero_le _, rfl, rfl, rfl, rfl, World.ownsRow_nil _ _ _ _, Nat.zero_le _, fun t ht => by simp at ht, fun h => by simp at h, Below.refl _ _⟩
      case round =>
        obtain ⟨q, st, hq, rfl, rfl, rfl, hsc, hown, hwl, htl, hop, hI⟩ := hrel
        have HSC := Lib.hid hsc
        have HOW := Lib.hid hown
        have HTL := Lib.hid htl
        have HOP := Lib.hid hop
        clear hsc hown htl hop
        have hIs := hI.size
        by_cases hql : q < p.size
        · have hql' : q < p.data.toList.length := by have e : p.data.toList.length = p.size := Array.length_toList; omega
          obtain ⟨c, hc⟩ : ∃ c, p.data.toList[q]? = some c := ⟨_, List.getElem?_eq_getElem hql'⟩
          have g : p[q]'hql = c := by
            have := (List.getElem?_eq_some_iff.1 hc).2
            rw [← this]; rfl
          have HC := Lib.hid hc
          clear hc
          by_cases hb : badC c = true
          · have hx : ¬ c.toNat = 9 ∧ (c.toNat < 32 ∨ 126 < c.toNat) := by simpa [badC] using hb
            obtain ⟨h9, hx⟩ := hx
            have r0 : wr.cell? ⟨w.heap.size, 0, none⟩ = some (.int .i64 0) := by rw [hI.cell (p := ⟨w.heap.size, 0, none⟩) (by have := hL3.size; simp; omega), hL3.cell (p := ⟨w.heap.size, 0, none⟩) (by simp; omega)]; exact HR.out.1
            have r1 : wr.cell? ⟨w.heap.size, 1, none⟩ = some (.int .i64 0) := by rw [hI.cell (p := ⟨w.heap.size, 1, none⟩) (by have := hL3.size; simp; omega), hL3.cell (p := ⟨w.heap.size, 1, none⟩) (by simp; omega)]; exact HR.out.2.1
            have f0 : wr.frozen? ⟨w.heap.size, 0, none⟩ = false := by rw [hI.frozen (p := ⟨w.heap.size, 0, none⟩) (by have := hL3.size; simp; omega), hL3.frozen (p := ⟨w.heap.size, 0, none⟩) (by simp; omega)]; exact HR.out.2.2 0
            have f1 : wr.frozen? ⟨w.heap.size, 1, none⟩ = false := by rw [hI.frozen (p := ⟨w.heap.size, 1, none⟩) (by have := hL3.size; simp; omega), hL3.frozen (p := ⟨w.heap.size, 1, none⟩) (by simp; omega)]; exact HR.out.2.2 1
            have hv : linesR s = ([], (k + 1, q + 1), 3) := by rw [HP.out, HF.out, HBd.out _ (HSC.out.trans (scanL_bad (k + 1) q _ c st HC.out hb))]; rfl
            have HV := Lib.hid hv
            clear hv hb
            have hR : w.heap.size < wr.heap.size := by have := hL3.size; omega
            rcases hx with hx | hx
            · go_wp2
              go_region
              have hpc := pos_cells wr w.heap.size (.int .i64 ((k : Int) + 1)) (.int .i64 ((q : Int) + 1)) (.int .i64 0) (.int .i64 0) r0 r1 f0 f1
              go_wp2
              rw [HV.out]
              refine bodyPost_ret (v := linV (.slice none 0 0) (k + 1, q + 1) 3) (by simp [results, Tryd.results20, go_sem, (hpc _).1, (hpc _).2]; try rfl) rfl ?_
              exact ⟨_, rfl, Ls.nil _ _ _, by have hz : Below w.heap.size w wr := (hL2.trans (hI.mono hL2.size)); go_grown⟩
            · have hlo : 32 ≤ c.toNat := by omega
              have n9 : ((c.toNat : Int) != 9) = true := by simp; omega
              go_wp2
              go_region
              have hpc := pos_cells wr w.heap.size (.int .i64 ((k : Int) + 1)) (.int .i64 ((q : Int) + 1)) (.int .i64 0) (.int .i64 0) r0 r1 f0 f1
              go_wp2
              rw [HV.out]
              refine bodyPost_ret (v := linV (.slice none 0 0) (k + 1, q + 1) 3) (by simp [results, Tryd.results20, go_sem, (hpc _).1, (hpc _).2]; try rfl) rfl ?_
              exact ⟨_, rfl, Ls.nil _ _ _, by have hz : Below w.heap.size w wr := (hL2.trans (hI.mono hL2.size)); go_grown⟩
          · have hb' : badC c = false := by simpa using hb
            have hnb : c.toNat = 9 ∨ (¬ c.toNat = 9 ∧ 32 ≤ c.toNat ∧ c.toNat ≤ 126) := by
              simp [badC] at hb; omega
            have hst := scanL_ok (k + 1) q _ c st HC.out hb'
            have HS := HSC.out.trans hst
            clear hst hb hb'
            obtain ⟨ws, cm, op⟩ := st
            simp only at hwl HOW HTL HOP ⊢
            by_cases ho : offC cm c = true
            · have e1 : stepC (k + 1) q c ⟨ws, cm, op⟩ = ⟨ws, cm || c.toNat == 35, false⟩ := by simp [stepC, ho]
              have ho' : cm = true ∨ (cm = false ∧ c.toNat = 35) ∨ (cm = false ∧ ¬ c.toNat = 35 ∧ c.toNat = 32) ∨ (cm = false ∧ ¬ c.toNat = 35 ∧ c.toNat = 9) := by
                cases cm
                · simp [offC] at ho; simp; omega
                · exact .inl rfl
              clear ho
              rw [e1] at HS
              clear e1
              rcases ho' with rfl | ⟨rfl, h35⟩ | ⟨rfl, h35, h32⟩ | ⟨rfl, h35, h32⟩
              · have HS2 := Lib.hid (show scanL (k + 1) 0 p.data.toList ⟨[], false, false⟩ = scanL (k + 1) (q + 1) (p.data.toList.drop (q + 1)) ⟨ws, true, false⟩ from HS)
                clear HS
                rcases hnb with hnb | ⟨h9, hlo, hhi⟩
                · go_wp2
                  go_roundw
                  case rel => exact ⟨q + 1, ⟨ws, true, false⟩, by omega, by go_num, rfl, rfl, HS2.out, own_below HOW.out (by go_grown), by (show ws.length ≤ q + 1; omega), fun t ht => by have := HTL.out t ht; omega, fun h => (by cases h), by go_grown⟩
                  case measure => simp [intOf]; omega
                · have n9 : ((c.toNat : Int) != 9) = true := by simp; omega
                  go_wp2
                  go_roundw
                  case rel => exact ⟨q + 1, ⟨ws, true, false⟩, by omega, by go_num, rfl, rfl, HS2.out, own_below HOW.out (by go_grown), by (show ws.length ≤ q + 1; omega), fun t ht => by have := HTL.out t ht; omega, fun h => (by cases h), by go_grown⟩
                  case measure => simp [intOf]; omega
              · have HS2 := Lib.hid (show scanL (k + 1) 0 p.data.toList ⟨[], false, false⟩ = scanL (k + 1) (q + 1) (p.data.toList.drop (q + 1)) ⟨ws, true, false⟩ by rw [HS, show (c.toNat == 35) = true by simp [h35]]; rfl)
                clear HS
                go_wp2
                go_roundw
                case rel => exact ⟨q + 1, ⟨ws, true, false⟩, by omega, by go_num, rfl, rfl, HS2.out, own_below HOW.out (by go_grown), by (show ws.length ≤ q + 1; omega), fun t ht => by have := HTL.out t ht; omega, fun h => (by cases h), by go_grown⟩
                case measure => simp [intOf]; omega
              · have HS2 := Lib.hid (show scanL (k + 1) 0 p.data.toList ⟨[], false, false⟩ = scanL (k + 1) (q + 1) (p.data.toList.drop (q + 1)) ⟨ws, false, false⟩ by rw [HS, show (c.toNat == 35) = false by simp [h35]]; rfl)
                clear HS
                go_wp2
                go_roundw
                case rel => exact ⟨q + 1, ⟨ws, false, false⟩, by omega, by go_num, rfl, rfl, HS2.out, own_below HOW.out (by go_grown), by (show ws.length ≤ q + 1; omega), fun t ht => by have := HTL.out t ht; omega, fun h => (by cases h), by go_grown⟩
                case measure => simp [intOf]; omega
              · have HS2 := Lib.hid (show scanL (k + 1) 0 p.data.toList ⟨[], false, false⟩ = scanL (k + 1) (q + 1) (p.data.toList.drop (q + 1)) ⟨ws, false, false⟩ by rw [HS, show (c.toNat == 35) = false by simp [h35]]; rfl)
                clear HS
                go_wp2
                go_roundw
                case rel => exact ⟨q + 1, ⟨ws, false, false⟩, by omega, by go_num, rfl, rfl, HS2.out, own_below HOW.out (by go_grown), by (show ws.length ≤ q + 1; omega), fun t ht => by have := HTL.out t ht; omega, fun h => (by cases h), by go_grown⟩
                case measure => simp [intOf]; omega
            · have ho' : cm = false ∧ ¬ c.toNat = 35 ∧ ¬ c.toNat = 32 ∧ ¬ c.toNat = 9 := by
                cases cm
                · simp [offC] at ho; simp; omega
                · simp [offC] at ho
              obtain ⟨rfl, h35, h32, h9⟩ := ho'
              have hlo : 32 ≤ c.toNat := by omega
              have hhi : c.toNat ≤ 126 := by omega
              clear hnb
              have n9 : ((c.toNat : Int) != 9) = true := by simp; omega
              have b9 : ((c.toNat : Int) == 9) = false := by simp; omega
              have b35 : ((c.toNat : Int) == 35) = false := by simp; omega
              have b32 : ((c.toNat : Int) == 32) = false := by simp; omega
              cases op
              · have e1 : stepC (k + 1) q c ⟨ws, false, false⟩ = ⟨ws ++ [(⟨#[c]⟩, k + 1, q + 1)], false, true⟩ := by simp [stepC, ho]
                rw [e1] at HS
                clear e1 ho
                have HS2 := Lib.hid HS
                obtain ⟨N, hN⟩ : ∃ N, N = ws.length := ⟨_, rfl⟩
                have hown : wr.ownsRow wi.heap.size 61 3 u8 N (cellsT ws) := by have := HOW.out; rw [← hN] at this; exact this
                have hE : p.extract q (q + 1) = ⟨#[c]⟩ := by rw [ext_one p q hql, g]
                have hwl' : N ≤ q := by rw [← hN] at hwl; exact hwl
                have HOW2 := Lib.hid hown
                have HN := Lib.hid hN
                clear HS hwl HOW HOP hown hN
                obtain ⟨ii, hi, hz0, hz1, hz2⟩ := info_parts info_tok
                go_wp2_with (at_builtin; go_must (refine wpList_app2 (W0 := wi) (hI.alloc hIs _) rfl (.tmp 66) (.tmp 69) 59 rfl 61 Tryd.underlying59 hi hz0 hz1 hz2 rfl (by decide) u8 N (cellsT ws) rfl [.string ⟨#[]⟩, .int .i64 ((k : Int) + 1), .int .i64 ((q : Int) + 1)] 61 (HOW2.out.alloc _) rfl (by simp) rfl (by intro u hu; simp at hu; rcases hu with rfl | rfl | rfl <;> rfl) (by unfold maxLen; omega) (by omega) ?_); intro g0 cap w2 hown2 hLq hgr hG)
                have hcs : cellsT ws ++ [.string ⟨#[]⟩, .int .i64 ((k : Int) + 1), .int .i64 ((q : Int) + 1)] = cellsT (ws ++ [((⟨#[]⟩ : ByteArray), k + 1, q + 1)]) := by rw [cellsT_app, cellsT_one]; simp [tokV]
                rw [hcs] at hown2
                have cN : w2.cell? ⟨g0, N * 3, none⟩ = some (.string ⟨#[]⟩) := by rw [hown2.cellAt _ (by omega), HN.out]; exact cellsT_last ws _
                have fN : w2.frozen? ⟨g0, N * 3, none⟩ = false := hown2.frozenAt _
                have hcc : (⟨#[]⟩ : ByteArray) ++ ⟨#[c]⟩ = ⟨#[c]⟩ := by rw [ByteArray.ext_iff]; simp
                have hg1 := (hown2.lt g0 rfl).1
                have hset := Lib.hid (hown2.stored (N * 3) (.string ⟨#[c]⟩)).1
                clear hown2 hgr hG hcs
                go_region
                go_wp2
                go_roundw
                case rel =>
                  have hset := hset.out
                  rw [HN.out, cellsT_set, ← HN.out] at hset
                  refine ⟨q + 1, ⟨ws ++ [(⟨#[c]⟩, k + 1, q + 1)], false, true⟩, by omega, by go_num, rfl, rfl, HS2.out, ?_, ?_, ?_, ?_, ?_⟩
                  · show World.ownsRow _ _ _ _ _ (ws ++ [((⟨#[c]⟩ : ByteArray), k + 1, q + 1)]).length _
                    rw [List.length_append, ← HN.out]
                    exact own_below hset (by go_grown)
                  · show (ws ++ [((⟨#[c]⟩ : ByteArray), k + 1, q + 1)]).length ≤ q + 1
                    rw [List.length_append, ← HN.out]; simp; omega
                  · intro t2 ht2
                    rcases List.mem_append.1 ht2 with h | h
                    · have := HTL.out t2 h; omega
                    · have e := List.mem_singleton.1 h
                      rw [e]
                      show 1 ≤ q + 1
                      omega
                  · intro _ h; simp at h
                  · exact (hLq.setCell (p := ⟨g0, N * 3, none⟩) hg1 _).drew
                case measure => simp [intOf]; omega
              · have e1 : stepC (k + 1) q c ⟨ws, false, true⟩ = ⟨addLast ws c, false, true⟩ := by simp [stepC, ho]
                rw [e1] at HS
                clear e1 ho
                obtain ⟨ws', t, rfl⟩ := snoc_of ws (HOP.out rfl)
                rw [addLast_snoc] at HS
                have HS2 := Lib.hid HS
                obtain ⟨N, hN⟩ : ∃ N, N = ws'.length := ⟨_, rfl⟩
                have hown : wr.ownsRow wi.heap.size 61 3 u8 (N + 1) (cellsT (ws' ++ [t])) := by have := HOW.out; rw [List.length_append, ← hN] at this; exact this
                obtain ⟨g0, cap, rfl, hg1, hg2⟩ := hown.form (by omega)
                have cN : wr.cell? ⟨g0, N * 3, none⟩ = some (.string t.1) := by rw [hown.cellAt _ (by omega), hN]; exact cellsT_last ws' t
                have fN : wr.frozen? ⟨g0, N * 3, none⟩ = false := hown.frozenAt _
                have tb : t.1.size ≤ q := HTL.out t (by simp)
                have hE : p.extract q (q + 1) = ⟨#[c]⟩ := by rw [ext_one p q hql, g]
                have hwl' : N + 1 ≤ q := by rw [List.length_append, ← hN] at hwl; exact hwl
                have HOW2 := Lib.hid hown
                have HN := Lib.hid hN
                have hne : ¬ g0 = wr.heap.size := by omega
                clear HS hwl HOW HOP hown hN
                go_wp2
                go_region
                go_wp2
                go_roundw
                case rel =>
                  have hset := (HOW2.out.stored (N * 3) (.string (t.1 ++ ⟨#[c]⟩))).1
                  rw [HN.out, cellsT_set, ← HN.out] at hset
                  refine ⟨q + 1, ⟨ws' ++ [(t.1 ++ ⟨#[c]⟩, t.2)], false, true⟩, by omega, by go_num, rfl, rfl, HS2.out, ?_, ?_, ?_, ?_, ?_⟩
                  · show World.ownsRow _ _ _ _ _ (ws' ++ [(t.1 ++ ⟨#[c]⟩, t.2)]).length _
                    rw [List.length_append, ← HN.out]
                    exact own_below hset (by go_grown)
                  · show (ws' ++ [(t.1 ++ ⟨#[c]⟩, t.2)]).length ≤ q + 1
                    rw [List.length_append, ← HN.out]; simp; omega
                  · intro t2 ht2
                    rcases List.mem_append.1 ht2 with h | h
                    · have := HTL.out t2 (List.mem_append_left _ h); omega
                    · have e := List.mem_singleton.1 h
                      rw [e]
                      show (t.1 ++ ⟨#[c]⟩).size ≤ q + 1
                      rw [ByteArray.size_append]
                      show t.1.size + 1 ≤ q + 1
                      omega
                  · intro _ h; simp at h
                  · exact ((hI.setCell (p := ⟨g0, N * 3, none⟩) hg1 _).alloc (by simpa using hIs) _).drew
                case measure => simp [intOf]; omega
        · have hqE : q = p.size := by omega
          have hplen : p.data.toList.length = p.size := Array.length_toList
          have hK2 := HF.out.trans (HK.out st (HSC.out.trans (scanL_end (k + 1) q _ st (by omega))))
          have HK2 := Lib.hid hK2
          clear hK2
          obtain ⟨ws, cm, op⟩ := st
          simp only at hwl HOW HTL HOP ⊢
          by_cases hws : ws = []
          · subst hws
            have hO2 := Lib.hid (HO.out.below hI)
            obtain ⟨ad, cap, hu8⟩ := (Sl.of_owns HOW.out).form
            have hu8' : u8 = .slice ad 0 cap := hu8
            clear hu8
            subst hu8'
            have HK3 := Lib.hid (show linesZ 0 (PB.map (·.data.toList)) [] = linesZ (k + 1) ((PB.map (·.data.toList)).drop (k + 1)) acc from HK2.out)
            clear HK2 HOW HOP HTL
            go_wp2
            go_roundw
            case rel => exact ⟨k + 1, acc, by omega, by omega, by go_num, HK3.out, hO2.out, hL2.trans (hI.mono hL2.size), hL3.trans (hI.mono hL3.size)⟩
            case measure => simp [intOf]; omega
          · have hO2 := HO.out.below hI
            obtain ⟨hs0, ho1, ho2⟩ := hO2
            have hl0 : hs0.length = acc.length := by have := ho1.1; omega
            obtain ⟨g0, cap, hu8, hg1, hg2⟩ := HOW.out.form (List.length_pos_iff.2 hws)
            have hu8' : u8 = .slice (some ⟨g0, 0, none⟩) ws.length cap := hu8
            clear hu8
            subst hu8'
            obtain ⟨hs1, ho3, _⟩ := HO.out
            have hne : (Value.slice (some ⟨g0, 0, none⟩) ws.length cap).ownBlock = none ∨ (Value.slice (some ⟨g0, 0, none⟩) ws.length cap).ownBlock ≠ u5.ownBlock := by
              right
              intro e
              have := (ho3.lt g0 e.symm).2
              omega
            have HNE := Lib.hid hne
            have Ho1 := Lib.hid ho1
            have Ho2 := Lib.hid ho2
            have HU := Lib.hid (own_base HOW.out hL3.size)
            have HK3 := Lib.hid (show linesZ 0 (PB.map (·.data.toList)) [] = linesZ (k + 1) ((PB.map (·.data.toList)).drop (k + 1)) (acc ++ [ws]) by rw [HK2.out]; simp [addLine, hws])
            have hwp : 0 < ws.length := List.length_pos_iff.2 hws
            obtain ⟨N, hN⟩ : ∃ N, N = ws.length := ⟨_, rfl⟩
            have HN := Lib.hid hN
            rw [← hN] at hwp hwl
            have HX := Lib.hid (hL3.trans (hI.mono hL3.size))
            clear HK2 HOW HOP HTL ho1 ho2 ho3 hne hws
            rw [← hN]
            clear hN
            obtain ⟨ii, hi, hz0, hz1, hz2⟩ := info_parts info_toks
            go_wp2_with (at_builtin; go_must (refine wpList_app2 (W0 := w1) HX.out rfl (.tmp 90) (.tmp 92) 36 rfl 59 Tryd.underlying36 hi hz0 hz1 hz2 rfl (by decide) u5 acc.length hs0 rfl [.slice (some ⟨g0, 0, none⟩) N cap] 59 Ho1.out rfl (by simp) rfl (by intro u hu; simp at hu; subst hu; rfl) (by unfold maxLen; omega) (by omega) ?_); intro g1 cap1 w2 hown2 hLq hgr hG)
            go_roundw
            case rel =>
              have hNN := HN.out
              subst hNN
              exact ⟨k + 1, acc ++ [ws], by omega, by rw [List.length_append]; simp; omega, by go_num, HK3.out, Out.app Ho2.out hl0 HU.out HNE.out hown2 hgr hG, hL.trans (hLq.mono (by omega)), hLq⟩
            case measure => simp [intOf]; omega
    · have hkE : k = PB.length := by omega
      have r0 : wr.cell? ⟨w.heap.size, 0, none⟩ = some (.int .i64 0) := by rw [hL3.cell (p := ⟨w.heap.size, 0, none⟩) (by simp; omega)]; exact HR.out.1
      have r1 : wr.cell? ⟨w.heap.size, 1, none⟩ = some (.int .i64 0) := by rw [hL3.cell (p := ⟨w.heap.size, 1, none⟩) (by simp; omega)]; exact HR.out.2.1
      have f0 : wr.frozen? ⟨w.heap.size, 0, none⟩ = false := by rw [hL3.frozen (p := ⟨w.heap.size, 0, none⟩) (by simp; omega)]; exact HR.out.2.2 0
      have f1 : wr.frozen? ⟨w.heap.size, 1, none⟩ = false := by rw [hL3.frozen (p := ⟨w.heap.size, 1, none⟩) (by simp; omega)]; exact HR.out.2.2 1
      go_wp2
      have hv : linesR s = (acc, (0, 0), 0) := by rw [HP.out, HF.out, linesZ_end _ _ _ (by rw [List.length_map]; omega)]; rfl
      rw [hv]
      refine bodyPost_ret (v := linV u5 (0, 0) 0) (by simp [results, Tryd.results20, go_sem, r0, r1, f0, f1]; try rfl) rfl ?_
      exact ⟨_, rfl, ((HO.out.set (by omega) 0 _).set (by omega) 1 _).ls, by go_grown⟩

theorem lines_any (s : ByteArray) (m : Int) (w : World) (hm : w.cell? ⟨0, 0, none⟩ = some (.int .i64 m)) :
    Calls Tryd.prog 20 #[.string s] w fun e w' => ∃ v, e = .returned (linV v (linesR s).2.1 (linesR s).2.2) ∧ Ls w' v (linesR s).1 ∧ Below w.heap.size w w' := by
  by_cases hs : 65536 < s.size
  · refine (lines_big s w hs).mono ?_
    rintro e w' ⟨rfl, hb⟩
    rw [show linesR s = ([], (0, 0), 5) by unfold linesR; rw [if_pos hs]]
    exact ⟨_, rfl, Ls.nil _ _ _, hb⟩
  · exact lines_ok s m w (by omega) hm
end Go.Proofs.YtcpfbemmlmdcaaaDoor.Lx
