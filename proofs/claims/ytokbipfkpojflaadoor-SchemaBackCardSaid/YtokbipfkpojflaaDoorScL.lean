/-
  The walk of the reader's list, at any closure (layer 34).
-/
import Derived.Test.YtokbipfkpojflaaDoorScR
import Derived.Test.YtokbipfkpojflaaDoorScX
set_option linter.unusedSimpArgs false
set_option linter.unusedVariables false
namespace Go.Proofs.YtokbipfkpojflaaDoor.Sc
open Go Go.RowKit Go.ChangeShapes Go.WideShapes Go.Proofs.YtokbipfkpojflaaDoor.Sl Go.Lib
open Go.Proofs.YtokbipfkpojflaaDoor.Lx (Tok tokV cellsT cellsT_len cellsT_app cellsT_one)

def kOpen : List ByteArray := [⟨#[40]⟩]
def kMore : List ByteArray := [⟨#[44]⟩, ⟨#[41]⟩]
/-- One item and what stands behind it. -/
def itemR {X : Type} (item : Rd × X → Rd × X) (s : Rd × X) : ByteArray × (Rd × X) := ((wordR (item s).1 kMore).1, ((wordR (item s).1 kMore).2, (item s).2))
def listR {X : Type} (item : Rd × X → Rd × X) : Nat → Rd × X → Rd × X
  | 0, s => s
  | n + 1, s => if s.1.e = 0 then (if (itemR item s).1 = ⟨#[41]⟩ then (itemR item s).2 else listR item n (itemR item s).2) else s
def lstR {X : Type} (item : Rd × X → Rd × X) (s : Rd × X) : Rd × X := listR item ((wordR s.1 kOpen).2.toks.length + 1) ((wordR s.1 kOpen).2, s.2)
theorem wordR_dec (r : Rd) (l : List ByteArray) (h : (wordR r l).2.e = 0) : (wordR r l).2.toks.length < r.toks.length := by
  unfold wordR at h ⊢
  dsimp only at h ⊢
  have hf : ∀ (q : Rd) (t : Tok), (failR q t 3).e = 0 → False := by
    intro q t
    unfold failR
    by_cases hq : q.e = 0
    · rw [if_pos hq]; intro h; simp at h
    · rw [if_neg hq]; exact hq
  by_cases hc : Lib.containsS l (nextR r).1.1 = true
  · rw [if_pos hc] at h ⊢
    unfold nextR at h ⊢
    by_cases he : r.e = 0
    · rw [if_pos he] at h ⊢
      cases ht : r.toks with
      | nil => rw [ht] at h; simp at h
      | cons t l => simp
    · rw [if_neg he] at h
      exact absurd h he
  · rw [if_neg hc] at h
    exact (hf _ _ h).elim
theorem failR_e0 (r : Rd) (t : Tok) : (failR r t 3).e = 0 → False := by
  unfold failR
  by_cases hq : r.e = 0
  · rw [if_pos hq]; intro h; simp at h
  · rw [if_neg hq]; exact hq
theorem nextR_e0 (r : Rd) (h : (nextR r).2.e = 0) : r.e = 0 ∧ (nextR r).2.toks.length < r.toks.length := by
  unfold nextR at h ⊢
  by_cases he : r.e = 0
  · rw [if_pos he] at h ⊢
    cases ht : r.toks with
    | nil => rw [ht] at h; simp at h
    | cons t l => exact ⟨he, by simp⟩
  · rw [if_neg he] at h
    exact absurd h he
theorem wordR_e0 (r : Rd) (l : List ByteArray) (h : (wordR r l).2.e = 0) : r.e = 0 := by
  unfold wordR at h
  dsimp only at h
  by_cases hc : Lib.containsS l (nextR r).1.1 = true
  · rw [if_pos hc] at h; exact (nextR_e0 r h).1
  · rw [if_neg hc] at h; exact (failR_e0 _ _ h).elim
theorem nameR_e0 (r : Rd) (h : (nameR r).2.e = 0) : r.e = 0 ∧ (nameR r).2.toks.length < r.toks.length := by
  unfold nameR at h ⊢
  dsimp only at h ⊢
  by_cases hc : nmB (nextR r).1.1 = true
  · rw [if_pos hc] at h ⊢; exact nextR_e0 r h
  · rw [if_neg hc] at h; exact (failR_e0 _ _ h).elim
/-- What has been gathered, and what is left. -/
def Bnd (n : Nat) (r : Rd) : Prop := (r.e = 0 → n + r.toks.length ≤ 1000000) ∧ n + r.toks.length ≤ 1000001
theorem Bnd.step {n : Nat} {r r' : Rd} (h : Bnd n r) (h1 : r'.toks.length ≤ r.toks.length) (h2 : r'.e = 0 → r.e = 0) : Bnd n r' := ⟨fun h0 => by have := h.1 (h2 h0); omega, by have := h.2; omega⟩
theorem Bnd.name {n : Nat} {r : Rd} (h : Bnd n r) (he : r.e = 0) : Bnd (n + 1) (nameR r).2 := by
  have := h.1 he
  have hl := nameR_len r
  exact ⟨fun h0 => by have := (nameR_e0 r h0).2; omega, by omega⟩
theorem listR_stable {X : Type} (item : Rd × X → Rd × X) (hlen : ∀ s, (item s).1.toks.length ≤ s.1.toks.length) : ∀ (n m : Nat) (s : Rd × X), s.1.toks.length < n → s.1.toks.length < m → listR item n s = listR item m s
  | 0, m, s, h, _ => absurd h (Nat.not_lt_zero _)
  | n + 1, 0, s, _, h => absurd h (Nat.not_lt_zero _)
  | n + 1, m + 1, s, h1, h2 => by
    unfold listR
    by_cases he : s.1.e = 0
    · rw [if_pos he, if_pos he]
      by_cases ht : (itemR item s).1 = ⟨#[41]⟩
      · rw [if_pos ht, if_pos ht]
      · rw [if_neg ht, if_neg ht]
        by_cases he2 : (itemR item s).2.1.e = 0
        · have hd := wordR_dec _ _ he2
          have := hlen s
          have hd2 : (itemR item s).2.1.toks.length < (item s).1.toks.length := hd
          exact listR_stable item hlen n m _ (by omega) (by omega)
        · cases n with
          | zero =>
            cases m with
            | zero => rfl
            | succ m => rw [listR, listR, if_neg he2]
          | succ n =>
            cases m with
            | zero => rw [listR, listR, if_neg he2]
            | succ m => rw [listR, listR, if_neg he2, if_neg he2]
    · rw [if_neg he, if_neg he]
theorem listR_go {X : Type} (item : Rd × X → Rd × X) (hlen : ∀ s, (item s).1.toks.length ≤ s.1.toks.length) (s : Rd × X) (he : s.1.e = 0) (ht : ¬ (itemR item s).1 = ⟨#[41]⟩) : listR item (s.1.toks.length + 1) s = listR item ((itemR item s).2.1.toks.length + 1) (itemR item s).2 := by
  rw [listR, if_pos he, if_neg ht]
  by_cases he2 : (itemR item s).2.1.e = 0
  · have hd : (itemR item s).2.1.toks.length < (item s).1.toks.length := wordR_dec _ _ he2
    have := hlen s
    exact listR_stable item hlen _ _ _ (by omega) (by omega)
  · cases s.1.toks.length with
    | zero => rw [listR, listR, if_neg he2]
    | succ n => rw [listR, listR, if_neg he2, if_neg he2]
def lenS : Option Value → Nat
  | some (.slice _ n _) => n
  | _ => 0
/-- How much there is left to read. -/
def rdM (w : World) (RB : Nat) : Nat := match w.cell? ⟨RB, 3, none⟩ with
  | some (.int _ z) => if z = 0 then lenS (w.cell? ⟨RB, 0, none⟩) + 1 else 0
  | _ => 0
theorem RdAt.m {w : World} {RB TB : Nat} {r : Rd} (h : RdAt w RB TB r) : rdM w RB = if r.e = 0 then r.toks.length + 1 else 0 := by
  obtain ⟨a, c, hb, ht, hne, hTR⟩ := h
  unfold rdM
  rw [hb.cell 3 _ rfl, hb.cell 0 _ rfl]
  rfl
theorem RdAt.e {w : World} {RB TB : Nat} {r : Rd} (h : RdAt w RB TB r) : w.cell? ⟨RB, 3, none⟩ = some (.int .i64 r.e) := by
  obtain ⟨a, c, hb, ht, hne, hTR⟩ := h
  exact hb.cell 3 _ rfl
/-- A literal of texts, in every world in which its block stays. -/
theorem lit_ss (w : World) (l : List ByteArray) (t : TypeId) (h : 0 < l.length) : Ss (w.alloc (.cells (l.map Value.string).toArray t)) (.slice (some ⟨w.heap.size, 0, none⟩) l.length l.length) l := by
  refine ⟨Sl.mk (by simp) fun j u hu => ?_, Cap.mk (Nat.le_refl _)⟩
  rw [Nat.zero_add]
  exact (Bx.new w t _).cell j u (by simpa using hu)
theorem lit_far {w W : World} {RB : Nat} {l : List ByteArray} {g n c : Nat} (h : Ss w (.slice (some ⟨g, 0, none⟩) n c) l) (hg : w.grownBy W (some RB)) (hne : g ≠ RB) : Ss W (.slice (some ⟨g, 0, none⟩) n c) l := by
  obtain ⟨⟨h1, ad, cap, e, h2⟩, h3⟩ := h
  refine ⟨⟨h1, ad, cap, e, fun hn => ?_⟩, h3⟩
  obtain ⟨g', off, rfl, hc⟩ := h2 hn
  simp only [Value.slice.injEq, Option.some.injEq, Addr.mk.injEq] at e
  obtain ⟨⟨rfl, rfl, _⟩, _, _⟩ := e
  refine ⟨_, _, rfl, fun j u hu => ?_⟩
  have := hc j u hu
  rw [hg.cell_far _ (block_of_cell this) (by simpa using hne)]
  exact this
set_option maxRecDepth 20000 in
set_option maxHeartbeats 1000000 in
theorem list_any {X : Type} (N : Nat) (HE : ∀ (args : Array Value) (w : World), (callFunc N args).run Tryd.prog w = .ok (.enter N args) w) (c1 c2 : Value) (RB TB : Nat) (item : Rd × X → Rd × X) (I : Rd → X → World → Prop)
    (hI1 : ∀ r x W, I r x W → RdAt W RB TB r) (hI2 : ∀ r x W r' W', I r x W → W.grownBy W' (some RB) → RdAt W' RB TB r' → r'.toks.length ≤ r.toks.length → (r'.e = 0 → r.e = 0) → I r' x W')
    (hit : ∀ r x W, I r x W → r.e = 0 → Calls Tryd.prog N #[c1, c2] W fun e w' => e = .returned (.tuple #[]) ∧ I (item (r, x)).1 (item (r, x)).2 w' ∧ W.heap.size ≤ w'.heap.size)
    (hlen : ∀ s, (item s).1.toks.length ≤ s.1.toks.length) (r : Rd) (x : X) (w : World) (h : I r x w) :
    Calls Tryd.prog 29 #[.pointer (some ⟨RB, 0, none⟩), .func (.func N) #[] #[c1, c2]] w fun e w' => e = .returned (.tuple #[]) ∧ I (lstR item (r, x)).1 (lstR item (r, x)).2 w' ∧ w.heap.size ≤ w'.heap.size := by
  have hr := hI1 _ _ _ h
  have hlt := hr.lt
  have HW1 := word_any RB TB r kOpen (.slice (some ⟨w.heap.size, 0, none⟩) 1 1) (w.alloc (.cells #[.string ⟨#[40]⟩] 9)) (hr.alloc _) (by decide) (fun W hg => lit_far (lit_ss w kOpen 9 (by decide)) hg (by omega))
  have H := Lib.hid h
  have HI1 := Lib.hid hI1
  have HI2 := Lib.hid hI2
  have HIT := Lib.hid hit
  have HLEN := Lib.hid hlen
  obtain ⟨Z, hZ⟩ : ∃ Z, lstR item (r, x) = Z := ⟨_, rfl⟩
  have HZ := Lib.hid hZ
  rw [hZ]
  clear h hI1 hI2 hit hlen hZ hr
  go_enter Tryd.func29, Tryd.ntmps29
  go_upto_region 1 with (go_at_call 27; with_reducible refine HW1.mono ?_; rintro e w1 ⟨rfl, h1, g1⟩)
  have hI0 : I (wordR r kOpen).2 x w1 := HI2.out _ _ _ _ _ (HI2.out _ _ _ _ _ H.out (World.grownBy_alloc w _ _) ((HI1.out _ _ _ H.out).alloc _) (Nat.le_refl _) id) g1 h1 (wordR_len _ _) (wordR_e0 _ _)
  have hs0 : w.heap.size ≤ w1.heap.size := by have := g1.size; simp at this; omega
  have HJ := Lib.hid hI0
  have HZ1 := Lib.hid (show listR item ((wordR r kOpen).2.toks.length + 1) ((wordR r kOpen).2, x) = Z from HZ.out)
  clear hI0 h1 g1 HZ H HW1
  generalize (wordR r kOpen).2 = r1 at HJ HZ1
  go_loopw [7] (fun _ wr => ∃ r' x', Hid (I r' x' wr) ∧ Hid (listR item (r'.toks.length + 1) (r', x') = Z) ∧ w.heap.size ≤ wr.heap.size) (fun _ wr => rdM wr RB)
  case atStart => exact ⟨r1, x, HJ, HZ1, hs0⟩
  case round =>
    obtain ⟨r', x', HI, HL, hsz⟩ := hrel
    have hr := HI1.out _ _ _ HI.out
    have ce := hr.e
    have hm := hr.m
    have hlt2 := hr.lt
    by_cases he : r'.e = 0
    · rw [he] at ce
      rw [if_pos he] at hm
      have HB := HIT.out r' x' wr HI.out he
      have HM := Lib.hid hm
      have HE2 := Lib.hid he
      clear hr hm he
      go_upto_region 3 with (with_reducible refine HB.mono ?_; rintro e w2 ⟨rfl, h2, s2⟩)
      have hr2 := HI1.out _ _ _ h2
      have HW2 := word_any RB TB (item (r', x')).1 kMore (.slice (some ⟨w2.heap.size, 0, none⟩) 2 2) (w2.alloc (.cells #[.string ⟨#[44]⟩, .string ⟨#[41]⟩] 9)) (hr2.alloc _) (by decide) (fun W hg => lit_far (lit_ss w2 kMore 9 (by decide)) hg (by have := hr2.lt; omega))
      have HI3 := fun (q : Rd) (W : World) (hq1 : q.toks.length ≤ (item (r', x')).1.toks.length) (hq2 : q.e = 0 → (item (r', x')).1.e = 0) (h : RdAt W RB TB q) (g : (w2.alloc (.cells #[.string ⟨#[44]⟩, .string ⟨#[41]⟩] 9)).grownBy W (some RB)) => HI2.out _ _ _ q W (HI2.out _ _ _ _ _ h2 (World.grownBy_alloc w2 _ _) (hr2.alloc _) (Nat.le_refl _) id) g h hq1 hq2
      have HW3 := Lib.hid HW2
      clear HW2
      by_cases ht : (itemR item (r', x')).1 = ⟨#[41]⟩
      · have HZ2 := Lib.hid (show (itemR item (r', x')).2 = Z by have h := HL.out; rw [listR, if_pos HE2.out, if_pos ht] at h; exact h)
        have HT := Lib.hid (show (wordR (item (r', x')).1 kMore).1 = ⟨#[41]⟩ from ht)
        have HW4 := HW3.out
        have hb : ((wordR (item (r', x')).1 kMore).1.toList == ([41] : List UInt8)) = true := by
          have h41 := (Lib.bytes_beq_iff (wordR (item (r', x')).1 kMore).1 (⟨#[41]⟩ : ByteArray)).2 ht
          rw [ByteArray.toList_eq (⟨#[41]⟩ : ByteArray)] at h41
          exact h41
        generalize (wordR (item (r', x')).1 kMore).1 = tx at hb HW4
        clear ht HW3
        go_wp2_with (go_at_call 27; with_reducible refine HW4.mono ?_; rintro e w3 ⟨rfl, h3, g3⟩)
        refine bodyPost_ret (results_none rfl _ _ _) rfl ?_
        have := g3.size
        refine ⟨rfl, ?_, by simp at this; omega⟩
        rw [← HZ2.out]
        exact HI3 _ _ (wordR_len _ _) (wordR_e0 _ _) h3 g3
      · have HZ2 := Lib.hid (show listR item ((itemR item (r', x')).2.1.toks.length + 1) (itemR item (r', x')).2 = Z by rw [← listR_go item HLEN.out (r', x') HE2.out ht]; exact HL.out)
        have hb : ((wordR (item (r', x')).1 kMore).1.toList == ([41] : List UInt8)) = false := by
          have h41 := (Lib.bytes_beq_false_iff (wordR (item (r', x')).1 kMore).1 (⟨#[41]⟩ : ByteArray)).2 ht
          rw [ByteArray.toList_eq (⟨#[41]⟩ : ByteArray)] at h41
          exact h41
        have HW4 := HW3.out
        have hdec := Lib.hid (wordR_dec (item (r', x')).1 kMore)
        have hle := Lib.hid (HLEN.out (r', x'))
        have HR := Lib.hid (show (itemR item (r', x')).2 = ((wordR (item (r', x')).1 kMore).2, (item (r', x')).2) from rfl)
        rw [HR.out] at HZ2
        generalize (wordR (item (r', x')).1 kMore).1 = tx at hb HW4
        clear ht HW3
        go_wp2_with (go_at_call 27; with_reducible refine HW4.mono ?_; rintro e w3 ⟨rfl, h3, g3⟩)
        go_roundw
        case rel => exact ⟨_, _, Lib.hid (HI3 _ _ (wordR_len _ _) (wordR_e0 _ _) h3 g3), HZ2, by have := g3.size; simp at this; omega⟩
        case measure =>
          rw [HM.out, h3.m]
          split
          · rename_i h5
            have := hdec.out h5
            have := hle.out
            omega
          · omega
    · have he2 : (r'.e == 0) = false := by simpa using he
      have HZ2 := Lib.hid (show (r', x') = Z by have h := HL.out; rw [listR, if_neg he] at h; exact h)
      go_wp2
      go_end0
      refine ⟨rfl, ?_, hsz⟩
      rw [← HZ2.out]
      exact HI.out
end Go.Proofs.YtokbipfkpojflaaDoor.Sc
