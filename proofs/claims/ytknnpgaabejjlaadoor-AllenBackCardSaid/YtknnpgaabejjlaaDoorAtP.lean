/-
  The plain law of sets' texts: what Parse reads, and that what Text writes is read back (nothing of the program's code).
-/
import Derived.Test.YtknnpgaabejjlaaDoorAlS
import Derived.Test.YtknnpgaabejjlaaDoorAlTp
import Derived.Test.YtknnpgaabejjlaaDoorIvE
set_option linter.unusedSimpArgs false
set_option linter.unusedVariables false
namespace Go.Proofs.YtknnpgaabejjlaaDoor.Al
open Go Go.RowKit Go.Proofs.YtknnpgaabejjlaaDoor.Bt Go.Proofs.YtknnpgaabejjlaaDoor.Sl Go.Proofs.YtknnpgaabejjlaaDoor.Tp Go.Proofs.YtknnpgaabejjlaaDoor.Lx
open Go.Proofs.YtknnpgaabejjlaaDoor.Iv (nms nm0 nm1 nm2 nm3 nm4 nm5 nm6 nm7 nm8 nm9 nm10 nm11 nm12 parseZ)

/-- The names of the relations, as lists of bytes. -/
def nmL : List (List UInt8) := nms.map (·.data.toList)
def nmF (r : Fin 13) : ByteArray := nms.getD r.val ⟨#[]⟩
def noneT : ByteArray := ⟨#[110, 111, 110, 101]⟩
def anyT : ByteArray := ⟨#[97, 110, 121]⟩
def joinT (L : List (Fin 13)) : ByteArray := ⟨(joinN (L.map fun r => (nmF r).data.toList)).toArray⟩
/-- The text of a set. -/
def txtS (s : Int) : ByteArray := if isSetB s = false then ⟨#[]⟩ else if s = 0 then noneT else if s = 8191 then anyT else joinT (singF s.toNat)
/-- What a text is read as: the set, and the error. -/
def finA (o : Option (Nat × Bool)) : Int × Int := match o with
  | none => (0, 3)
  | some (m, tw) => if tw = true then (0, 8) else ((m : Int), 0)
def parA (s : ByteArray) : Int × Int := if 200 < s.size then (0, 5) else if s = noneT then (0, 0) else if s = anyT then (8191, 0) else
  finA (parsA nmL (splitL 124 s.data.toList) 0 false)

theorem nmL_nodup : nmL.Nodup := by decide
theorem nmL_len : nmL.length = 13 := rfl
theorem nmL_get (r : Fin 13) : nmL.getD r.val [] = (nmF r).data.toList := by
  revert r; decide
theorem nmL_bar : ∀ x ∈ nmL, (124 : UInt8) ∉ x := by decide
theorem nmF_mem (r : Fin 13) : (nmF r).data.toList ∈ nmL := by
  rw [← nmL_get r, List.getD_eq_getElem?_getD, List.getElem?_eq_getElem (by rw [nmL_len]; exact r.isLt)]
  exact List.getElem_mem _
theorem nmF_size (r : Fin 13) : (nmF r).size ≤ 12 := by
  revert r; decide
theorem joinN_len : ∀ L : List (Fin 13), (joinN (L.map fun r => (nmF r).data.toList)).length ≤ 13 * L.length
  | [] => by simp [joinN]
  | [x] => by
    have := nmF_size x
    show (nmF x).data.toList.length ≤ 13
    rw [Array.length_toList]
    show (nmF x).size ≤ 13
    omega
  | x :: y :: L => by
    have h := nmF_size x
    have ih := joinN_len (y :: L)
    show ((nmF x).data.toList ++ 124 :: joinN ((y :: L).map fun r => (nmF r).data.toList)).length ≤ _
    rw [List.length_append, List.length_cons, Array.length_toList]
    have : (nmF x).data.size = (nmF x).size := rfl
    simp only [List.length_cons] at ih ⊢
    omega
theorem singF_len (m : Nat) : (singF m).length ≤ 13 := singTo_len m 13

theorem beq_list (s z : ByteArray) : ((s.toList == z.toList) = true) = (z.data.toList = s.data.toList) := by
  rw [ByteArray.toList_eq, ByteArray.toList_eq, beq_iff_eq]
  exact propext ⟨fun h => h.symm, fun h => h.symm⟩
theorem parse_idx (s : ByteArray) : parseZ s = (match idxN 0 nmL s.data.toList with
    | none => ((0 : Int), (3 : Int))
    | some r => ((r : Int), 0)) := by
  unfold parseZ
  simp only [beq_list]
  show _ = (match idxN 0 [nm0.data.toList, nm1.data.toList, nm2.data.toList, nm3.data.toList, nm4.data.toList, nm5.data.toList, nm6.data.toList, nm7.data.toList, nm8.data.toList, nm9.data.toList, nm10.data.toList, nm11.data.toList, nm12.data.toList] s.data.toList with
    | none => ((0 : Int), (3 : Int))
    | some r => ((r : Int), 0))
  generalize s.data.toList = p
  rw [idxN]
  by_cases h0 : nm0.data.toList = p
  · rw [if_pos h0, if_pos h0]; rfl
  rw [if_neg h0, if_neg h0]
  rw [idxN]
  by_cases h1 : nm1.data.toList = p
  · rw [if_pos h1, if_pos h1]; rfl
  rw [if_neg h1, if_neg h1]
  rw [idxN]
  by_cases h2 : nm2.data.toList = p
  · rw [if_pos h2, if_pos h2]; rfl
  rw [if_neg h2, if_neg h2]
  rw [idxN]
  by_cases h3 : nm3.data.toList = p
  · rw [if_pos h3, if_pos h3]; rfl
  rw [if_neg h3, if_neg h3]
  rw [idxN]
  by_cases h4 : nm4.data.toList = p
  · rw [if_pos h4, if_pos h4]; rfl
  rw [if_neg h4, if_neg h4]
  rw [idxN]
  by_cases h5 : nm5.data.toList = p
  · rw [if_pos h5, if_pos h5]; rfl
  rw [if_neg h5, if_neg h5]
  rw [idxN]
  by_cases h6 : nm6.data.toList = p
  · rw [if_pos h6, if_pos h6]; rfl
  rw [if_neg h6, if_neg h6]
  rw [idxN]
  by_cases h7 : nm7.data.toList = p
  · rw [if_pos h7, if_pos h7]; rfl
  rw [if_neg h7, if_neg h7]
  rw [idxN]
  by_cases h8 : nm8.data.toList = p
  · rw [if_pos h8, if_pos h8]; rfl
  rw [if_neg h8, if_neg h8]
  rw [idxN]
  by_cases h9 : nm9.data.toList = p
  · rw [if_pos h9, if_pos h9]; rfl
  rw [if_neg h9, if_neg h9]
  rw [idxN]
  by_cases h10 : nm10.data.toList = p
  · rw [if_pos h10, if_pos h10]; rfl
  rw [if_neg h10, if_neg h10]
  rw [idxN]
  by_cases h11 : nm11.data.toList = p
  · rw [if_pos h11, if_pos h11]; rfl
  rw [if_neg h11, if_neg h11]
  rw [idxN]
  by_cases h12 : nm12.data.toList = p
  · rw [if_pos h12, if_pos h12]; rfl
  rw [if_neg h12, if_neg h12]
  rfl
theorem parse_none (s : ByteArray) (h : idxN 0 nmL s.data.toList = none) : parseZ s = (0, 3) := by rw [parse_idx, h]
theorem parse_some (s : ByteArray) (r : Nat) (h : idxN 0 nmL s.data.toList = some r) : parseZ s = ((r : Int), 0) := by rw [parse_idx, h]
theorem idx_lt (p : List UInt8) (r : Nat) (h : idxN 0 nmL p = some r) : r < 13 := by
  have := (idxN_lt nmL 0 r p h).2.1
  rw [nmL_len] at this; omega

/-- The set of a list of relations. -/
def orF (L : List (Fin 13)) : Nat := (L.map Fin.val).foldl (fun m r => m ||| 2 ^ r) 0
theorem joinT_data (L : List (Fin 13)) : (joinT L).data.toList = joinN (L.map fun r => (nmF r).data.toList) := rfl
theorem joinT_size (L : List (Fin 13)) : (joinT L).size = (joinN (L.map fun r => (nmF r).data.toList)).length := by
  show (joinN (L.map fun r => (nmF r).data.toList)).toArray.size = _
  simp
theorem map_bar (L : List (Fin 13)) : ∀ x ∈ L.map fun r => (nmF r).data.toList, (124 : UInt8) ∉ x := by
  intro x hx
  obtain ⟨r, _, rfl⟩ := List.mem_map.1 hx
  exact nmL_bar _ (nmF_mem r)
theorem joinT_ne (L : List (Fin 13)) (hL : L ≠ []) (z : ByteArray) (hb : (124 : UInt8) ∉ z.data.toList) (hz : z.data.toList ∉ nmL) : joinT L ≠ z := by
  intro h
  have h1 : splitL 124 (joinT L).data.toList = L.map fun r => (nmF r).data.toList := by
    rw [joinT_data]; exact split_join _ (by simpa using hL) (map_bar L)
  rw [h, split_none _ hb] at h1
  have : z.data.toList ∈ L.map fun r => (nmF r).data.toList := by rw [← h1]; simp
  obtain ⟨r, _, e⟩ := List.mem_map.1 this
  exact hz (e ▸ nmF_mem r)
/-- Names in any order are read as their set. -/
theorem parA_join (L : List (Fin 13)) (hL : L ≠ []) (hn : L.Nodup) (hl : L.length ≤ 13) : parA (joinT L) = ((orF L : Int), 0) := by
  have hs := joinN_len L
  have h1 : ¬ 200 < (joinT L).size := by rw [joinT_size]; omega
  unfold parA
  rw [if_neg h1, if_neg (joinT_ne L hL noneT (by decide) (by decide)), if_neg (joinT_ne L hL anyT (by decide) (by decide)), joinT_data, split_join _ (by simpa using hL) (map_bar L)]
  have e : (L.map fun r => (nmF r).data.toList) = (L.map Fin.val).map fun r => nmL.getD r [] := by
    rw [List.map_map]
    apply List.map_congr_left
    intro r _
    exact (nmL_get r).symm
  rw [e, parsA_names nmL nmL_nodup (L.map Fin.val) 0 false (by intro r hr; obtain ⟨x, _, rfl⟩ := List.mem_map.1 hr; rw [nmL_len]; exact x.isLt)
    (by rw [List.Nodup, List.pairwise_map]; exact hn.imp fun h e => h (Fin.ext e)) (by simp)]
  rfl
theorem orF_sing (m : Nat) (h : m < 8192) : orF (singF m) = m := by
  have := sing_or m h
  have e : (singF m).map Fin.val = (List.range 13).filter fun r => m.testBit r := by
    unfold singF
    rw [show (List.range 13) = (List.finRange 13).map Fin.val by decide, List.filter_map]
    rfl
  unfold orF
  rw [e]; exact this
theorem singF_nodup (m : Nat) : (singF m).Nodup := List.Pairwise.filter _ (by decide : (List.finRange 13).Nodup)
theorem singF_nil (m : Nat) (h : m < 8192) (e : singF m = []) : m = 0 := by
  have := orF_sing m h
  rw [e] at this
  exact this.symm
/-- What Text writes is read as the set. -/
theorem parA_txt (m : Nat) (h : m < 8192) : parA (txtS (m : Int)) = ((m : Int), 0) := by
  have his : ¬ isSetB (m : Int) = false := by simp [isSetB]; omega
  unfold txtS
  rw [if_neg his]
  by_cases h0 : (m : Int) = 0
  · rw [if_pos h0, h0]; rfl
  rw [if_neg h0]
  by_cases h1 : (m : Int) = 8191
  · rw [if_pos h1, h1]; rfl
  rw [if_neg h1, Int.toNat_natCast, parA_join _ (fun e => h0 (by rw [singF_nil m h e]; rfl)) (singF_nodup m) (singF_len m), orF_sing m h]
end Go.Proofs.YtknnpgaabejjlaaDoor.Al
