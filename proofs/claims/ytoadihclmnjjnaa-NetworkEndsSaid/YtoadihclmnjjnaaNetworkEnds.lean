/-
  NetworkEnds: called with any values of its parameters, in any memory, the law returns true, and its arguments read afterwards as before (intervals satisfy a network exactly if their ends satisfy its bounds and choices). Conditions: none beyond the given statement's.
-/
import Derived.Test.YtoadihclmnjjnaaRows
import Derived.Test.YtoadihclmnjjnaaLaw
import Derived.Test.YtoadihclmnjjnaaNyJ
import Derived.Test.YtoadihclmnjjnaaNop
set_option linter.unusedSimpArgs false
set_option linter.unusedVariables false
namespace Go.Proofs.Ytoadihclmnjjnaa.networkEnds
open Go.ChangeShapes Go.WideShapes Go.ChangeAt Go.RowKit Go.Joins Go.Proofs.Ytoadihclmnjjnaa.Law
open Go.ChangeMaps (open_string)

set_option maxRecDepth 100000 in
theorem lifted (os : Os) (started : os.Started) (H : Type) (enc : TypeId × Value → H) :
    ReturnsInHanded {} Try.checked os 11 .any (Rows.networkEndsSpec.pre6 enc Try.prog Try.f11 Rows.networkEndsRow.domain false) (Rows.networkEndsSpec.post enc Try.prog Try.f11 false true false false) := by
  refine returnsInHanded_of_change (C := Try.checked) own started (by kernel_rfl) Try.func11
    (ChangeSpec.witness6 (enc := enc) (C := Try.checked) false ⟨#[], #[.slice none 0 0, .slice none 0 0], []⟩ 8 (by kernel_rfl) (by kernel_rfl) (by kernel_rfl) (by kernel_rfl)) ?_
  intro W base args ds gs before hval0 hW hcnd hsz
  have hval : ∀ (j : Nat) t v, Try.f11.params[j]? = some t → args[j]? = some v → Value.okWide Try.prog W .any base t v := hval0
  have hW' := hW
  obtain ⟨p, q, hA0, hV, rfl, hfz, hnd⟩ := hW
  have hA : DataW.TrodAll enc Try.prog W 0 (fun _ => true) true Try.f11.params.toList args.toList ds p := hA0
  rw [Try.params11] at hA hval
  obtain ⟨v0, vs0, d0, ds0, p0, q0, hargs, rfl, rfl, h0, r0⟩ := trodAll_cons hA
  obtain ⟨v1, vs1, d1, ds1, p1, q1, rfl, rfl, rfl, h1, r1⟩ := trodAll_cons r0
  obtain ⟨rfl, rfl, rfl⟩ := trodAll_nil r1
  obtain rfl : args = #[v0, v1] := by cases args; simp_all
  obtain ⟨rfl, rfl⟩ := trodVars_none hV
  obtain ⟨l, hs0, hg0⟩ := Nw.open_rels (hval 0 22 v0 rfl rfl) h0
  obtain ⟨a, hs1, hg1⟩ := Nw.open_spans (hval 1 46 v1 rfl rfl) h1
  clear hA0 hval0
  refine (Nw.networkEnds_walk v0 l v1 a W hs0 hg0 hs1 hg1).mono fun e W' ⟨he, hb⟩ => ?_
  subst he
  exact ⟨_, rfl, law_post (T := 4) laid rfl rfl Try.underlying4 (by rw [Try.params11]; intro t ht; simp only [List.mem_cons, List.not_mem_nil, or_false] at ht; rcases ht with rfl | rfl <;> exact ⟨by kernel_rfl, of_decide_eq_true (by kernel_rfl)⟩) (fun _ => ⟨rfl, rfl, rfl⟩) hW' hb⟩

theorem over : Rows.networkEndsRow.holds Try.pinned (OpenSpec.ofChange Rows.networkEndsSpec) :=
  OpenClaim.holds_of_wide 11 Try.f11 rfl rfl rfl rfl rfl rfl rfl ⟨rfl, rfl, rfl, rfl, rfl⟩ rfl rfl rfl rfl rfl (by kernel_rfl) Try.func11 (by kernel_rfl)
    (of_decide_eq_true (by kernel_rfl)) (by unfold Func.isWrapper; rw [if_neg (of_decide_eq_false (by kernel_rfl))]; exact ⟨rfl, rfl⟩)
    (fun os started H enc _ => lifted os started H enc)

theorem proved : Rows.NetworkEndsSaid :=
  over
end Go.Proofs.Ytoadihclmnjjnaa.networkEnds
