/-
  The iterator of allen (each): its contract, and the law of a loop over it; isSet (layer 11).
-/
import Derived.Test.YtoadihclmnjjnaaChecked
import Derived.Test.YtoadihclmnjjnaaBits
import Derived.Test.YtoadihclmnjjnaaSl
import Derived.RangeFuncNested
import Derived.RangeFuncBound
import Derived.RangeFuncCalls
import Derived.RangeFuncLeaves
import Derived.Shelf.Abstract
import Derived.Shelf.RegionOpen
import Derived.WalkKit
import Derived.OwnWalkIn
import Derived.TacticsInMore
import Derived.LoopNIn
import Derived.LoopIn
import Derived.Lib.Hide
set_option linter.unusedSimpArgs false
set_option linter.unusedVariables false
namespace Go.Proofs.Ytoadihclmnjjnaa.Al
open Go Go.RowKit Go.Shelf Go.Proofs.Ytoadihclmnjjnaa.Bt Go.Proofs.Ytoadihclmnjjnaa.Sl
attribute [local go_sem] Oper.semAt_some

def singF (m : Nat) : List (Fin 13) := (List.finRange 13).filter fun r => m.testBit r.val
/-- The relations of m below k. -/
def singTo (m k : Nat) : List (Fin 13) := ((List.finRange 13).take k).filter fun r => m.testBit r.val
theorem singTo_zero (m : Nat) : singTo m 0 = [] := rfl
theorem singTo_all (m : Nat) : singTo m 13 = singF m := rfl
theorem singTo_step (m k : Nat) (h : k < 13) : singTo m (k + 1) = singTo m k ++ (if m.testBit k then [⟨k, h⟩] else []) := by
  unfold singTo
  rw [List.take_succ_eq_append_getElem (by simpa using h), List.filter_append]
  congr 1
  have : (List.finRange 13)[k]'(by simpa using h) = ⟨k, h⟩ := by simp
  rw [this]
  cases c : m.testBit k <;> simp [List.filter_cons, c]
theorem singTo_len (m k : Nat) : (singTo m k).length ≤ k := Nat.le_trans (List.length_filter_le _ _) (List.length_take_le _ _)
theorem singTo_prefix (m k : Nat) : singTo m k <+: singF m := by
  unfold singTo singF
  exact List.IsPrefix.filter _ (List.take_prefix _ _)
/-- What a round keeps: the iterator's own box. -/
def Kb (Bn : Nat) (t : TypeId) (W W' : World) : Prop := ∀ v, Boxed W Bn t v → Boxed W' Bn t v

set_option maxRecDepth 100000 in
set_option maxHeartbeats 1000000 in
theorem each1_in (n : Nat) (hn : 1 ≤ n) (l Bn : Nat) (m : Nat) (hm : m < 8192) (J Jx : List (Fin 13) → World → Prop)
    (hY : ∀ pre x W, J pre W → pre.length < 13 → YieldAt Fence.wide (n - 1) Try.prog l #[.int .i64 ((x : Fin 13).val : Int)] W fun e W' =>
      (e = .returned (.bool true) ∧ J (pre ++ [x]) W' ∧ Kb Bn 3 W W') ∨ (e = .returned (.bool false) ∧ Jx (pre ++ [x]) W'))
    (W : World) (hBn : Boxed W Bn 3 (.int .i64 m)) (h0 : J [] W) :
    CallsIn Fence.wide n Try.prog 96 #[.func (.yield l) #[] #[], .pointer (some ⟨Bn, 0, none⟩)] W fun e W' => (∃ v, e = .returned v) ∧
      ((∃ ys, ys = singF m ∧ J ys W') ∨ (∃ pre, pre <+: singF m ∧ Jx pre W')) := by
  refine callsIn_of_wp Try.func96 rfl trivial ?_ rfl
  have hwf : ∀ f, Fence.wide.fn f := fun _ => trivial
  simp only [Try.ntmps96, List.size_toArray, List.length_cons, List.length_nil, Nat.reduceAdd, Nat.reduceSub, Array.replicate_succ, Array.replicate_zero, List.push_toArray, List.append_toArray, List.nil_append, List.cons_append]
  gi_wp2
  gi_loopw [4] (fun i wr => ∃ k : Nat, k ≤ 13 ∧ i = .int .i64 k ∧ Boxed wr Bn 3 (.int .i64 m) ∧ J (singTo m k) wr) (fun i _ => 13 - (intOf i).toNat)
  case atStart => exact ⟨0, by omega, rfl, hBn, by rw [singTo_zero]; exact h0⟩
  case round =>
    obtain ⟨k, hk, rfl, hB, hJ⟩ := hrel
    have hc := hB.cell
    by_cases hlt : k < 13
    · have hbt := bit_test m k (by omega)
      cases hb : m.testBit k
      · rw [hb] at hbt
        have hs := singTo_step m k hlt
        rw [hb, if_neg (by simp), List.append_nil] at hs
        have HS := Lib.hid hs
        clear hs
        gi_wp2
        go_roundw
        case rel => exact ⟨k + 1, by omega, by go_num, hB, by rw [HS.out]; exact hJ⟩
        case measure => simp [intOf]; omega
      · rw [hb] at hbt
        have hs := singTo_step m k hlt
        rw [hb, if_pos rfl] at hs
        have HS := Lib.hid hs
        clear hs
        obtain ⟨fn, tmps, assign, body, hy, hR⟩ := hY (singTo m k) ⟨k, hlt⟩ wr hJ (by have := singTo_len m k; omega)
        gi_wp2
        refine hR.mono ?_
        rintro e W3 (⟨rfl, hJ3, hk3⟩ | ⟨rfl, hJx3⟩)
        · gi_wp2
          go_roundw
          case rel => exact ⟨k + 1, by omega, by go_num, hk3 _ hB, by rw [HS.out]; exact hJ3⟩
          case measure => simp [intOf]; omega
        · gi_wp2
          refine bodyPost_ret (results_none rfl _ _ _) rfl ?_
          exact ⟨⟨_, rfl⟩, .inr ⟨_, by rw [← HS.out]; exact singTo_prefix m (k + 1), hJx3⟩⟩
    · obtain rfl : k = 13 := by omega
      gi_wp2
      go_end0
      exact ⟨⟨_, rfl⟩, .inl ⟨_, rfl, by rw [← singTo_all]; exact hJ⟩⟩

theorem each_stops (n : Nat) (hn : 1 ≤ n) (Bn m : Nat) (hm : m < 8192) (w : World) (hB : Boxed w Bn 3 (.int .i64 m)) :
    SeqStopsK Fence.wide n Try.prog 96 #[.pointer (some ⟨Bn, 0, none⟩)] (fun x : Fin 13 => #[Value.int .i64 (x.val : Int)]) (Kb Bn 3) (fun ys => ys = singF m) (fun pre => pre <+: singF m) 13 w :=
  fun l J Jx W hW _ _ hY h0 => each1_in n hn l Bn m hm J Jx hY W ((hW.block Bn hB.lt).trans hB) h0

theorem each_any (s : Int) (w : World) : Calls Try.prog 79 #[.int .i64 s] w fun e w' => e = .returned (.func (.func 96) #[] #[.pointer (some ⟨w.heap.size, 0, none⟩)]) ∧ w.alloc (.cells #[.int .i64 s] 3) = w' := by
  go_enter Try.func79, Try.ntmps79
  go_wp2
  go_ret
  exact ⟨rfl, rfl⟩
def isSetB (s : Int) : Bool := decide (0 ≤ s) && decide (s ≤ 8191)
theorem isSet_any (s : Int) (w : World) : Calls Try.prog 78 #[.int .i64 s] w fun e w' => e = .returned (.bool (isSetB s)) ∧ w = w' := by
  have d : isSetB s = (decide (0 ≤ s) && decide (s ≤ 8191)) := rfl
  rw [d]; clear d
  by_cases h : 0 ≤ s
  · go_enter Try.func78, Try.ntmps78
    go_wp2
    go_ret
    exact ⟨by simp [h], rfl⟩
  · go_enter Try.func78, Try.ntmps78
    go_wp2
    go_ret
    exact ⟨by simp [Int.not_le.2 h], rfl⟩
theorem kb_t {Bn : Nat} {t : TypeId} {A B C : World} (h : Kb Bn t A B) (k : Kb Bn t B C) : Kb Bn t A C := fun v hv => k v (h v hv)
theorem kb_b {Bn : Nat} {t : TypeId} {w : World} (W : World) (l : Nat) (o o' : Obj) (hl : w.heap.size ≤ l) (h : W.heap[l]? = some o) (hc : o.isCells = false) (_ : o.isWalk = false) : Kb Bn t W (W.putObj l o') := fun v hv =>
  hv.kept (grownBy_putObj' W l o') (fun e => by cases e; rw [show W.heap[Bn]? = _ from hv] at h; cases h; cases hc)

/-- A LOOP OVER THE RELATIONS OF A SET, in a function's own body (not in another loop over a function). -/
theorem wp_each {n : Nat} {g : Operand} {p : Tmp} {assign body : Code} {Q : Exit → Act → World → Prop} {a : Act} {w : World} (hn : 2 ≤ n) (Bn m : Nat) (hm : m < 8192) (hB : Boxed w Bn 3 (.int .i64 m))
    (hg : a.eval g = .func (.func 96) #[] #[.pointer (some ⟨Bn, 0, none⟩)])
    (I : List (Fin 13) → World → Prop) (hI : OwnFrom w.heap.size I) (h0 : I [] w) (a₁ : Fin 13 → Act)
    (hassign : ∀ (l : Nat) (x : Fin 13) (W : World) (K : Act → World → Prop), K (a₁ x) W →
      assign.wpIn (Fence.wide.inRound l) (n - 1 - 1) Try.prog (Exit.then K (fun _ _ _ => False)) { tmps := a.tmps.setIfInBounds p (.int .i64 (x.val : Int)), defers := [] } W)
    (hbody : ∀ (l : Nat) (pre : List (Fin 13)) (x : Fin 13) (W : World), I pre W → pre.length < 13 → body.wpIn (Fence.wide.inRound l) (n - 1 - 1) Try.prog (ownPostK (Kb Bn 3) I (fun _ _ _ => False) (pre ++ [x]) W) (a₁ x) W)
    (hdone : ∀ (D : Nat) (W : World), w.heap.size ≤ D → I (singF m) W → W.heap[D]? = some (.deferred (some [])) → Q .normal { a with defers := { target := .collected D, args := #[] } :: a.defers } W) :
    (Code.rangeFunc g #[p] assign body).wpIn Fence.wide n Try.prog Q a w := by
  refine wpIn_rangeFunc_ownF rfl (by omega) (gf := 96) (lb := #[.pointer (some ⟨Bn, 0, none⟩)]) hg trivial (enters_of Try.func96 (by kernel_rfl) rfl)
    (each_stops (n - 1) (by omega) Bn m hm w hB) kb_t kb_b (Below.refl _ _) (fun _ => rfl)
    I (fun _ _ _ => False) hI (fun _ _ _ _ _ hs _ _ => hs) h0 a₁ ?_ hbody ?_ ?_
  · intro l x W K hK
    have := hassign l x W K hK
    simpa using this
  · rintro D xs W hD rfl hi hK
    exact hdone D W hD hi hK
  · intro D c pre W _ _ h _
    exact h.elim
end Go.Proofs.Ytoadihclmnjjnaa.Al
