/-
  The walks of layer 10's Parse and of the reference's, of the program civiltime.
-/
import Derived.Test.YtknnpgaabejjlaaDoorIvC
set_option linter.unusedSimpArgs false
set_option linter.unusedVariables false
namespace Go.Proofs.YtknnpgaabejjlaaDoor.Iv
open Go.RowKit Go.ChangeShapes Go.WideShapes Go.Proofs.YtknnpgaabejjlaaDoor.Sl

def parseZ (s : ByteArray) : Int × Int := if (s.toList == nm0.toList) = true then (0, 0) else if (s.toList == nm1.toList) = true then (1, 0) else if (s.toList == nm2.toList) = true then (2, 0) else if (s.toList == nm3.toList) = true then (3, 0) else if (s.toList == nm4.toList) = true then (4, 0) else if (s.toList == nm5.toList) = true then (5, 0) else if (s.toList == nm6.toList) = true then (6, 0) else if (s.toList == nm7.toList) = true then (7, 0) else if (s.toList == nm8.toList) = true then (8, 0) else if (s.toList == nm9.toList) = true then (9, 0) else if (s.toList == nm10.toList) = true then (10, 0) else if (s.toList == nm11.toList) = true then (11, 0) else if (s.toList == nm12.toList) = true then (12, 0) else (0, 3)
def parseZR (s : ByteArray) : Int × Int := if (nm0.toList == s.toList) = true then (0, 0) else if (nm1.toList == s.toList) = true then (1, 0) else if (nm2.toList == s.toList) = true then (2, 0) else if (nm3.toList == s.toList) = true then (3, 0) else if (nm4.toList == s.toList) = true then (4, 0) else if (nm5.toList == s.toList) = true then (5, 0) else if (nm6.toList == s.toList) = true then (6, 0) else if (nm7.toList == s.toList) = true then (7, 0) else if (nm8.toList == s.toList) = true then (8, 0) else if (nm9.toList == s.toList) = true then (9, 0) else if (nm10.toList == s.toList) = true then (10, 0) else if (nm11.toList == s.toList) = true then (11, 0) else if (nm12.toList == s.toList) = true then (12, 0) else (0, 3)
theorem parseZR_eq (s : ByteArray) : parseZR s = parseZ s := by
  have h : ∀ a : List UInt8, (a == s.toList) = (s.toList == a) := fun a => BEq.comm
  unfold parseZR parseZ
  simp only [h]
set_option maxHeartbeats 4000000 in
theorem parse_any (s : ByteArray) (w : World) : Calls Tryd.prog 17 #[.string s] w fun e w' => e = .returned (.tuple #[.int .i64 (parseZ s).1, .int .i64 (parseZ s).2]) ∧ Below w.heap.size w w' := by
  have i0 := idx0
  have i1 := idx1
  have i2 := idx2
  have i3 := idx3
  have i4 := idx4
  have i5 := idx5
  have i6 := idx6
  have i7 := idx7
  have i8 := idx8
  have i9 := idx9
  have i10 := idx10
  have i11 := idx11
  have i12 := idx12
  go_enter Tryd.func17, Tryd.ntmps17
  go_wp2_with (go_at_call 24; refine (names_any _).mono ?_; rintro e w1 ⟨rfl, hb⟩)
  refine wp_loop_rounds 14 ?_
  repeat any_goals (rw [rounds_succ]; go_wp2)
  all_goals
    go_ret2
    exact ⟨by simp [parseZ, *], hb⟩
end Go.Proofs.YtknnpgaabejjlaaDoor.Iv
