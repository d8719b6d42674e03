/-
  The walks of layer 18's names of months and weekdays, of the program civiltime.
-/
import Derived.Test.YtokbipfkpojflaaDoorLxR
import Derived.Lib.SlicesS
set_option linter.unusedSimpArgs false
set_option linter.unusedVariables false
namespace Go.Proofs.YtokbipfkpojflaaDoor.Lx
open Go.RowKit Go.ChangeShapes Go.WideShapes Go.Proofs.YtokbipfkpojflaaDoor.Sl

def MON : List ByteArray := [⟨#[74, 97, 110]⟩, ⟨#[70, 101, 98]⟩, ⟨#[77, 97, 114]⟩, ⟨#[65, 112, 114]⟩, ⟨#[77, 97, 121]⟩, ⟨#[74, 117, 110]⟩, ⟨#[74, 117, 108]⟩, ⟨#[65, 117, 103]⟩, ⟨#[83, 101, 112]⟩, ⟨#[79, 99, 116]⟩, ⟨#[78, 111, 118]⟩, ⟨#[68, 101, 99]⟩]
def WKD : List ByteArray := [⟨#[77, 111, 110]⟩, ⟨#[84, 117, 101]⟩, ⟨#[87, 101, 100]⟩, ⟨#[84, 104, 117]⟩, ⟨#[70, 114, 105]⟩, ⟨#[83, 97, 116]⟩, ⟨#[83, 117, 110]⟩]

/-- Where a name stands, from 1 on, and the error's number. -/
def findF : Nat → List ByteArray → ByteArray → Int × Int
  | _, [], _ => (0, 3)
  | i, z :: zs, x => if z = x then ((i : Int) + 1, 0) else findF (i + 1) zs x
def findZ (l : List ByteArray) (x : ByteArray) : Int × Int := findF 0 l x
def pairW (p : Int × Int) : Value := .tuple #[.int .i64 p.1, .int .i64 p.2]

theorem findF_idx (x : ByteArray) : ∀ (l : List ByteArray) (i : Nat), (Lib.idxFromS l x i < 0 ∧ findF i l x = (0, 3)) ∨ (0 ≤ Lib.idxFromS l x i ∧ Lib.idxFromS l x i ≤ i + l.length ∧ findF i l x = (Lib.idxFromS l x i + 1, 0))
  | [], i => by left; exact ⟨by simp [Lib.idxFromS], rfl⟩
  | z :: zs, i => by
    by_cases h : z = x
    · right; subst h; simp [Lib.idxFromS, findF]; omega
    · have e1 : Lib.idxFromS (z :: zs) x i = Lib.idxFromS zs x (i + 1) := by simp [Lib.idxFromS, h]
      have e2 : findF i (z :: zs) x = findF (i + 1) zs x := by simp [findF, h]
      rw [e1, e2]
      rcases findF_idx x zs (i + 1) with h | ⟨h1, h2, h3⟩
      · left; exact h
      · right; refine ⟨h1, ?_, h3⟩
        simp only [List.length_cons]; omega

/-- A slice of texts that lies at a block's head. -/
def At (w : World) (b : Nat) (l : List ByteArray) : Prop := ∀ j, j < l.length → w.cell? ⟨b, 0 + j, none⟩ = some (.string (l.getD j ByteArray.empty))
theorem At.get {w : World} {b : Nat} {l : List ByteArray} (h : At w b l) (j : Nat) (z : ByteArray) (hz : l[j]? = some z) : w.cell? ⟨b, j, none⟩ = some (.string z) := by
  have hj : j < l.length := (List.getElem?_eq_some_iff.1 hz).1
  have := h j hj
  rw [Nat.zero_add, List.getD_eq_getElem?_getD, hz] at this
  exact this
theorem At.block {w : World} {b : Nat} {l : List ByteArray} (h : At w b l) (hl : 0 < l.length) : b < w.heap.size := by
  exact block_of_cell (h 0 hl)
theorem At.below {w w' : World} {b : Nat} {l : List ByteArray} (h : At w b l) (hb : Below w.heap.size w w') : At w' b l := by
  intro j hj
  exact cell_kept (h j hj) hb
theorem At.new (w : World) (l : List ByteArray) (t : TypeId) : At (w.alloc (.cells (l.map Value.string).toArray t)) w.heap.size l := by
  intro j hj
  have := cells_str w l t j (l.getD j ByteArray.empty) (by rw [List.getD_eq_getElem?_getD, List.getElem?_eq_getElem hj]; rfl)
  rw [Nat.zero_add]
  exact this

theorem idx_any (l : List ByteArray) (b c : Nat) (x : ByteArray) (w : World) (hl : l.length ≤ 1000) (hc : At w b l) (n : Nat) (hn : n = l.length) :
    Calls Tryd.prog 31 #[.slice (some ⟨b, 0, none⟩) n c, .string x] w fun e w' => e = .returned (.int .i64 (Lib.idxFromS l x 0)) ∧ w = w' := by
  subst hn
  refine (Tryd.slices_Index_string b 0 l.length c l x w (Nat.le_refl _) (by omega) (fun j hj => hc j hj)).mono ?_
  rintro e w' ⟨rfl, rfl⟩
  rw [List.take_length]
  exact ⟨rfl, rfl⟩
theorem idx_is (l : List ByteArray) (b c : Nat) (x : ByteArray) (w : World) (hl : l.length ≤ 1000) (hc : At w b l) (n : Nat) (hn : n = l.length) (r : Int) (hr : Lib.idxFromS l x 0 = r) :
    Calls Tryd.prog 31 #[.slice (some ⟨b, 0, none⟩) n c, .string x] w fun e w' => e = .returned (.int .i64 r) ∧ w = w' := by
  subst hr; exact idx_any l b c x w hl hc n hn

def getZ (l : List ByteArray) (n : Int) : ByteArray := if n < 1 ∨ (l.length : Int) < n then ⟨#[]⟩ else l.getD (n - 1).toNat ⟨#[]⟩
theorem str_nb (z x : ByteArray) (he : ¬ z = x) : (z.toList == x.toList) = false := by
  have h : ¬ z.toList = x.toList := by
    intro h
    rw [ByteArray.toList_eq, ByteArray.toList_eq] at h
    exact he (ByteArray.ext (Array.toList_inj.1 h))
  simp [h]
theorem str_ne (z x : ByteArray) (he : ¬ z = x) (w : World) : (binOp .eql 9 (.string z) (.string x)).run Tryd.prog w = .ok (.bool false) w := by
  have h : ¬ z.toList = x.toList := by
    intro h
    rw [ByteArray.toList_eq, ByteArray.toList_eq] at h
    exact he (ByteArray.ext (Array.toList_inj.1 h))
  simp [go_sem, h]
theorem findF_end (l : List ByteArray) (x : ByteArray) (k : Nat) (h : l.length ≤ k) : findF k (l.drop k) x = (0, 3) := by
  rw [List.drop_eq_nil_of_le h]; rfl
theorem findF_hit (l : List ByteArray) (x : ByteArray) (k : Nat) (h : l[k]? = some x) : findF k (l.drop k) x = ((k : Int) + 1, 0) := by
  obtain ⟨hk, e⟩ := List.getElem?_eq_some_iff.1 h
  rw [List.drop_eq_getElem_cons hk, findF, if_pos e]
theorem findF_miss (l : List ByteArray) (x z : ByteArray) (k : Nat) (h : l[k]? = some z) (hz : z ≠ x) : findF k (l.drop k) x = findF (k + 1) (l.drop (k + 1)) x := by
  obtain ⟨hk, e⟩ := List.getElem?_eq_some_iff.1 h
  rw [List.drop_eq_getElem_cons hk, findF, if_neg (by rw [e]; exact hz)]

end Go.Proofs.YtokbipfkpojflaaDoor.Lx
