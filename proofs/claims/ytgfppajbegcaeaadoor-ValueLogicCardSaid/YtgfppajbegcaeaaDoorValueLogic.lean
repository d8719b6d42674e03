/-
  ValueLogic: called with any values of its parameters, in any memory, the law returns true, and its arguments read afterwards as before (double negation, De Morgan, excluded middle and contradiction hold for conditions). Conditions: none beyond the given statement's.
-/
import Derived.Test.YtgfppajbegcaeaaDoorRows
import Derived.Test.YtgfppajbegcaeaaDoorCards
import Derived.Test.YtgfppajbegcaeaaDoorTie
import Derived.Test.YtgfppajbegcaeaaDoorLaw
import Derived.Test.YtgfppajbegcaeaaDoorLawD
import Derived.OpenShut
import Derived.LaidMore
import Derived.Lay
import Derived.SevenTiedAt
import Derived.Stop.Joined
import Derived.Test.YtgfppajbegcaeaaDoorVlJ
import Derived.Test.YtgfppajbegcaeaaDoorVop
set_option linter.unusedSimpArgs false
set_option linter.unusedVariables false
namespace Go.Proofs.YtgfppajbegcaeaaDoor.valueLogic
open Go.ChangeShapes Go.WideShapes Go.ChangeAt Go.RowKit Go.Joins Go.Proofs.YtgfppajbegcaeaaDoor.Law
open Go.ChangeMaps (open_string)

set_option maxRecDepth 100000 in
theorem lifted (os : Os) (started : os.Started) (H : Type) (enc : TypeId × Value → H) :
    ReturnsInHanded {} Tryd.checked os 6 .any (fun w args => (Rows.valueLogicSpec.pre enc Tryd.prog Tryd.f6 Rows.valueLogicRow.domain false w args ∧ laidMetH Tryd.prog Rows.valueLogicRow.laid w) ∧ sizedMet enc Tryd.prog Tryd.f6 (OpenSpec.ofChange Rows.valueLogicSpec) false w args)
      (Rows.valueLogicSpec.post enc Tryd.prog Tryd.f6 false true false false) := by
  refine LawD.of_change_laid_shaped (C := Tryd.checked) (X := fun w _ => laidMetH Tryd.prog Rows.valueLogicRow.laid w) (fun _ _ _ hh h => h.of_heap hh) own started (by kernel_rfl) Tryd.func6
    (ChangeSpec.witness_shaped (enc := enc) (C := Tryd.checked) (os := os) (X := fun w _ => laidMetH Tryd.prog Rows.valueLogicRow.laid w) false (World.laidAll Tryd.prog os Rows.valueLogicRow.laid) #[.agg #[.int .i64 0, .string ⟨#[]⟩, .string ⟨#[]⟩, .int .i64 0, .int .i64 0, .string ⟨#[]⟩, .slice none 0 0], .agg #[.int .i64 0, .string ⟨#[]⟩, .string ⟨#[]⟩, .int .i64 0, .int .i64 0, .string ⟨#[]⟩, .slice none 0 0], .slice none 0 0, .slice none 0 0] 8 (World.laidAll_os _ _ _)
      (World.shaped_of_ZipB (by kernel_rfl) (by kernel_rfl)) (by kernel_rfl) (by kernel_rfl) (by kernel_rfl)
      (by rw [MakeChecks.laidMetH_plain _ _ _ (by kernel_rfl)]; exact laidMet_laidAll _ (by kernel_rfl) (by kernel_rfl))) ?_
  intro W base args ds gs before hval0 hW hL hsh
  obtain ⟨m, hm⟩ : ∃ m, W.cell? ⟨0, 0, none⟩ = some (.int .i64 m) := Tryd.laysM138.s1_3 W hsh
  have hval : ∀ (j : Nat) t v, Tryd.f6.params[j]? = some t → args[j]? = some v → Value.okWide Tryd.prog W .any base t v := hval0
  have hW' := hW
  obtain ⟨p, q, hA0, hV, rfl, hfz, hnd⟩ := hW
  have hA : DataW.TrodAll enc Tryd.prog W 0 (fun _ => true) true Tryd.f6.params.toList args.toList ds p := hA0
  rw [Tryd.params6] at hA hval
  obtain ⟨v0, vs0, d0, ds0, p0, q0, hargs, rfl, rfl, h0, r0⟩ := trodAll_cons hA
  obtain ⟨v1, vs1, d1, ds1, p1, q1, rfl, rfl, rfl, h1, r1⟩ := trodAll_cons r0
  obtain ⟨v2, vs2, d2, ds2, p2, q2, rfl, rfl, rfl, h2, r2⟩ := trodAll_cons r1
  obtain ⟨v3, vs3, d3, ds3, p3, q3, rfl, rfl, rfl, h3, r3⟩ := trodAll_cons r2
  obtain ⟨rfl, rfl, rfl⟩ := trodAll_nil r3
  obtain rfl : args = #[v0, v1, v2, v3] := by cases args; simp_all
  obtain ⟨rfl, rfl⟩ := trodVars_none hV
  obtain ⟨cs0, a, rfl, hs0, hg0⟩ := Va.open_cond (hval 0 46 v0 rfl rfl) h0
  obtain ⟨cs1, b, rfl, hs1, hg1⟩ := Va.open_cond (hval 1 46 v1 rfl rfl) h1
  obtain ⟨ns, hs2, hl2⟩ := Va.open_names (hval 2 47 v2 rfl rfl) h2
  obtain ⟨l, hs3, hl3, hg3⟩ := Va.open_vals (hval 3 22 v3 rfl rfl) h3
  clear hA0 hval0
  refine (Va.valueLogic_walk cs0 a cs1 b v2 ns v3 l m W hm hs0 hg0 hs1 hg1 hs2 hl2 hs3 hl3 hg3).mono fun e W' ⟨he, hb⟩ => ?_
  subst he
  exact ⟨_, rfl, law_post (T := 4) laid rfl rfl Tryd.underlying4 (by rw [Tryd.params6]; intro t ht; simp only [List.mem_cons, List.not_mem_nil, or_false] at ht; rcases ht with rfl | rfl | rfl | rfl <;> exact ⟨by kernel_rfl, of_decide_eq_true (by kernel_rfl)⟩) (fun _ => ⟨rfl, rfl, rfl⟩) hW' hb⟩

theorem over : Rows.ValueLogicSaid :=
  OpenClaim.holds_of_wide 6 Tryd.f6 rfl rfl rfl rfl rfl rfl rfl ⟨rfl, rfl, rfl, rfl, rfl⟩ rfl rfl rfl rfl rfl (by kernel_rfl) Tryd.func6 (by kernel_rfl)
    (of_decide_eq_true (by kernel_rfl)) (by unfold Func.isWrapper; rw [if_neg (of_decide_eq_false (by kernel_rfl))]; exact ⟨rfl, rfl⟩)
    (fun os started H enc _ => lifted os started H enc)

theorem proved : Rows.ValueLogicCardSaid :=
  Claim7.holds_tied_plain_at .later [] [.data, .pinned] true (true, "765edfe87be84f553dfd66526a7164da3ffa4593af8055c6409d7790bb63f99b") false over (fun _ h => by cases h) (by kernel_rfl) (fun _ h => by cases h) valueLogic_row_tie rfl ⟨rfl, rfl⟩ (by kernel_rfl) rfl
    (fun f fn hf hfn => by
      obtain rfl : f = 6 := Option.some.inj ((show Tryd.prog.funcNamed "civiltime/civiltimelaw33.ValueLogic" = some 6 by kernel_rfl).symm.trans hf) |>.symm
      obtain rfl : fn = Tryd.f6 := (Option.some.inj (Tryd.func6.symm.trans hfn)).symm
      exact ⟨by kernel_rfl, fun j t ht => by
        rw [Tryd.params6] at ht
        have hm : t ∈ [46, 46, 47, 22] := by simpa using Array.mem_of_getElem? ht
        have hall : ([46, 46, 47, 22].all fun u => !Tryd.prog.wantsStandIn u) = true := by kernel_rfl
        exact (show Tryd.prog.wantsStandIn t = false by simpa using List.all_eq_true.1 hall t hm)⟩)
    (by kernel_rfl)
end Go.Proofs.YtgfppajbegcaeaaDoor.valueLogic
