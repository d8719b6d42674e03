/-
  The walk of the reference's plain (layer 33).
-/
import Derived.Test.YtgfppajbegcaeaaDoorVcX
set_option linter.unusedSimpArgs false
set_option linter.unusedVariables false
namespace Go.Proofs.YtgfppajbegcaeaaDoor.Va
open Go.RowKit Go.ChangeShapes Go.WideShapes Go.Proofs.YtgfppajbegcaeaaDoor.Sl Go.Lib

set_option maxRecDepth 20000 in
theorem rpl1_c (oth : ByteArray) (v0 v1 : Int) (v2 : ByteArray) (z : Bool) (hve : ∀ W : World, (binOp .eql 32 (.agg #[.int .i64 v0, .int .i64 v1, .string v2]) (.agg #[.int .i64 0, .int .i64 0, .string ⟨#[]⟩])).run Tryd.prog W = .ok (.bool z) W) (ad : Option Addr) (m cap : Nat) (w : World) :
    Calls Tryd.prog 84 #[agC 1 ⟨#[]⟩ oth v0 v1 v2 (.slice ad m cap)] w fun e w' => e = .returned (.bool false) ∧ Below w.heap.size w w' := by
  go_enter Tryd.func84, Tryd.ntmps84
  go_wp2
  go_ret
  exact ⟨rfl, by go_grown⟩
set_option maxRecDepth 20000 in
theorem rpl1_l (col oth : ByteArray) (hc : ¬ col = ⟨#[]⟩) (v0 v1 : Int) (v2 : ByteArray) (z : Bool) (hve : ∀ W : World, (binOp .eql 32 (.agg #[.int .i64 v0, .int .i64 v1, .string v2]) (.agg #[.int .i64 0, .int .i64 0, .string ⟨#[]⟩])).run Tryd.prog W = .ok (.bool z) W) (ad : Option Addr) (m cap : Nat) (w : World) (hm : ¬ m = 0) :
    Calls Tryd.prog 84 #[agC 1 col oth v0 v1 v2 (.slice ad m cap)] w fun e w' => e = .returned (.bool false) ∧ Below w.heap.size w w' := by
  obtain ⟨p1, p2, p3⟩ := list_ne col hc
  have hm2 : ¬ (m : Int) = 0 := by omega
  have hm3 : ((m : Int) == 0) = false := by simp; omega
  go_enter Tryd.func84, Tryd.ntmps84
  go_wp2
  go_ret
  exact ⟨rfl, by go_grown⟩
set_option maxRecDepth 20000 in
theorem rpl1_e (col : ByteArray) (hc : ¬ col = ⟨#[]⟩) (v0 v1 : Int) (v2 : ByteArray) (z : Bool) (hve : ∀ W : World, (binOp .eql 32 (.agg #[.int .i64 v0, .int .i64 v1, .string v2]) (.agg #[.int .i64 0, .int .i64 0, .string ⟨#[]⟩])).run Tryd.prog W = .ok (.bool z) W) (ad : Option Addr) (m cap : Nat) (w : World) (vb : Bool) (HV : ∀ W, Calls Tryd.prog 34 #[.agg #[.int .i64 v0, .int .i64 v1, .string v2]] W fun e w' => e = .returned (.bool vb) ∧ Below W.heap.size W w') :
    Calls Tryd.prog 84 #[agC 1 col ⟨#[]⟩ v0 v1 v2 (.slice ad 0 cap)] w fun e w' => e = .returned (.bool vb) ∧ Below w.heap.size w w' := by
  obtain ⟨p1, p2, p3⟩ := list_ne col hc
  cases vb
  · go_enter Tryd.func84, Tryd.ntmps84
    go_wp2_with (go_at_call 34; (with_reducible refine (HV _).mono ?_); rintro e w1 ⟨rfl, hb⟩; have hL : Below w.heap.size w w1 := bstep (by go_grown) hb; have hx := Go.Proofs.YtgfppajbegcaeaaDoor.Sl.cell_kept (box_cell (box_new w #[.int .i64 1, .string col, .string ⟨#[]⟩, .int .i64 v0, .int .i64 v1, .string v2, .slice ad 0 cap] 46) 2 _ rfl) hb; clear hb)
    go_ret
    exact ⟨rfl, hL⟩
  · go_enter Tryd.func84, Tryd.ntmps84
    go_wp2_with (go_at_call 34; (with_reducible refine (HV _).mono ?_); rintro e w1 ⟨rfl, hb⟩; have hL : Below w.heap.size w w1 := bstep (by go_grown) hb; have hx := Go.Proofs.YtgfppajbegcaeaaDoor.Sl.cell_kept (box_cell (box_new w #[.int .i64 1, .string col, .string ⟨#[]⟩, .int .i64 v0, .int .i64 v1, .string v2, .slice ad 0 cap] 46) 2 _ rfl) hb; clear hb)
    go_ret
    exact ⟨rfl, hL⟩
set_option maxRecDepth 20000 in
theorem rpl1_o (col oth : ByteArray) (hc : ¬ col = ⟨#[]⟩) (ho : ¬ oth = ⟨#[]⟩) (v0 v1 : Int) (v2 : ByteArray) (z : Bool) (hve : ∀ W : World, (binOp .eql 32 (.agg #[.int .i64 v0, .int .i64 v1, .string v2]) (.agg #[.int .i64 0, .int .i64 0, .string ⟨#[]⟩])).run Tryd.prog W = .ok (.bool z) W) (ad : Option Addr) (m cap : Nat) (w : World) :
    Calls Tryd.prog 84 #[agC 1 col oth v0 v1 v2 (.slice ad 0 cap)] w fun e w' => e = .returned (.bool z) ∧ Below w.heap.size w w' := by
  obtain ⟨p1, p2, p3⟩ := list_ne col hc
  obtain ⟨q1, q2, q3⟩ := list_ne oth ho
  cases z
  · go_enter Tryd.func84, Tryd.ntmps84
    go_wp2
    go_ret
    exact ⟨rfl, by go_grown⟩
  · go_enter Tryd.func84, Tryd.ntmps84
    go_wp2
    go_ret
    exact ⟨rfl, by go_grown⟩
set_option maxRecDepth 20000 in
theorem rpl2_c (oth : ByteArray) (v0 v1 : Int) (v2 : ByteArray) (z : Bool) (hve : ∀ W : World, (binOp .eql 32 (.agg #[.int .i64 v0, .int .i64 v1, .string v2]) (.agg #[.int .i64 0, .int .i64 0, .string ⟨#[]⟩])).run Tryd.prog W = .ok (.bool z) W) (ad : Option Addr) (m cap : Nat) (w : World) :
    Calls Tryd.prog 84 #[agC 2 ⟨#[]⟩ oth v0 v1 v2 (.slice ad m cap)] w fun e w' => e = .returned (.bool false) ∧ Below w.heap.size w w' := by
  go_enter Tryd.func84, Tryd.ntmps84
  go_wp2
  go_ret
  exact ⟨rfl, by go_grown⟩
set_option maxRecDepth 20000 in
theorem rpl2_l (col oth : ByteArray) (hc : ¬ col = ⟨#[]⟩) (v0 v1 : Int) (v2 : ByteArray) (z : Bool) (hve : ∀ W : World, (binOp .eql 32 (.agg #[.int .i64 v0, .int .i64 v1, .string v2]) (.agg #[.int .i64 0, .int .i64 0, .string ⟨#[]⟩])).run Tryd.prog W = .ok (.bool z) W) (ad : Option Addr) (m cap : Nat) (w : World) (hm : ¬ m = 0) :
    Calls Tryd.prog 84 #[agC 2 col oth v0 v1 v2 (.slice ad m cap)] w fun e w' => e = .returned (.bool false) ∧ Below w.heap.size w w' := by
  obtain ⟨p1, p2, p3⟩ := list_ne col hc
  have hm2 : ¬ (m : Int) = 0 := by omega
  have hm3 : ((m : Int) == 0) = false := by simp; omega
  go_enter Tryd.func84, Tryd.ntmps84
  go_wp2
  go_ret
  exact ⟨rfl, by go_grown⟩
set_option maxRecDepth 20000 in
theorem rpl2_e (col : ByteArray) (hc : ¬ col = ⟨#[]⟩) (v0 v1 : Int) (v2 : ByteArray) (z : Bool) (hve : ∀ W : World, (binOp .eql 32 (.agg #[.int .i64 v0, .int .i64 v1, .string v2]) (.agg #[.int .i64 0, .int .i64 0, .string ⟨#[]⟩])).run Tryd.prog W = .ok (.bool z) W) (ad : Option Addr) (m cap : Nat) (w : World) (vb : Bool) (HV : ∀ W, Calls Tryd.prog 34 #[.agg #[.int .i64 v0, .int .i64 v1, .string v2]] W fun e w' => e = .returned (.bool vb) ∧ Below W.heap.size W w') :
    Calls Tryd.prog 84 #[agC 2 col ⟨#[]⟩ v0 v1 v2 (.slice ad 0 cap)] w fun e w' => e = .returned (.bool vb) ∧ Below w.heap.size w w' := by
  obtain ⟨p1, p2, p3⟩ := list_ne col hc
  cases vb
  · go_enter Tryd.func84, Tryd.ntmps84
    go_wp2_with (go_at_call 34; (with_reducible refine (HV _).mono ?_); rintro e w1 ⟨rfl, hb⟩; have hL : Below w.heap.size w w1 := bstep (by go_grown) hb; have hx := Go.Proofs.YtgfppajbegcaeaaDoor.Sl.cell_kept (box_cell (box_new w #[.int .i64 2, .string col, .string ⟨#[]⟩, .int .i64 v0, .int .i64 v1, .string v2, .slice ad 0 cap] 46) 2 _ rfl) hb; clear hb)
    go_ret
    exact ⟨rfl, hL⟩
  · go_enter Tryd.func84, Tryd.ntmps84
    go_wp2_with (go_at_call 34; (with_reducible refine (HV _).mono ?_); rintro e w1 ⟨rfl, hb⟩; have hL : Below w.heap.size w w1 := bstep (by go_grown) hb; have hx := Go.Proofs.YtgfppajbegcaeaaDoor.Sl.cell_kept (box_cell (box_new w #[.int .i64 2, .string col, .string ⟨#[]⟩, .int .i64 v0, .int .i64 v1, .string v2, .slice ad 0 cap] 46) 2 _ rfl) hb; clear hb)
    go_ret
    exact ⟨rfl, hL⟩
set_option maxRecDepth 20000 in
theorem rpl2_o (col oth : ByteArray) (hc : ¬ col = ⟨#[]⟩) (ho : ¬ oth = ⟨#[]⟩) (v0 v1 : Int) (v2 : ByteArray) (z : Bool) (hve : ∀ W : World, (binOp .eql 32 (.agg #[.int .i64 v0, .int .i64 v1, .string v2]) (.agg #[.int .i64 0, .int .i64 0, .string ⟨#[]⟩])).run Tryd.prog W = .ok (.bool z) W) (ad : Option Addr) (m cap : Nat) (w : World) :
    Calls Tryd.prog 84 #[agC 2 col oth v0 v1 v2 (.slice ad 0 cap)] w fun e w' => e = .returned (.bool z) ∧ Below w.heap.size w w' := by
  obtain ⟨p1, p2, p3⟩ := list_ne col hc
  obtain ⟨q1, q2, q3⟩ := list_ne oth ho
  cases z
  · go_enter Tryd.func84, Tryd.ntmps84
    go_wp2
    go_ret
    exact ⟨rfl, by go_grown⟩
  · go_enter Tryd.func84, Tryd.ntmps84
    go_wp2
    go_ret
    exact ⟨rfl, by go_grown⟩
set_option maxRecDepth 20000 in
theorem rpl3_c (col oth : ByteArray) (hc : ¬ col = ⟨#[]⟩) (v0 v1 : Int) (v2 : ByteArray) (z : Bool) (hve : ∀ W : World, (binOp .eql 32 (.agg #[.int .i64 v0, .int .i64 v1, .string v2]) (.agg #[.int .i64 0, .int .i64 0, .string ⟨#[]⟩])).run Tryd.prog W = .ok (.bool z) W) (ad : Option Addr) (m cap : Nat) (w : World) :
    Calls Tryd.prog 84 #[agC 3 col oth v0 v1 v2 (.slice ad m cap)] w fun e w' => e = .returned (.bool false) ∧ Below w.heap.size w w' := by
  obtain ⟨p1, p2, p3⟩ := list_ne col hc
  go_enter Tryd.func84, Tryd.ntmps84
  go_wp2
  go_ret
  exact ⟨rfl, by go_grown⟩
set_option maxRecDepth 20000 in
theorem rpl3_o (oth : ByteArray) (ho : ¬ oth = ⟨#[]⟩) (v0 v1 : Int) (v2 : ByteArray) (z : Bool) (hve : ∀ W : World, (binOp .eql 32 (.agg #[.int .i64 v0, .int .i64 v1, .string v2]) (.agg #[.int .i64 0, .int .i64 0, .string ⟨#[]⟩])).run Tryd.prog W = .ok (.bool z) W) (ad : Option Addr) (m cap : Nat) (w : World) :
    Calls Tryd.prog 84 #[agC 3 ⟨#[]⟩ oth v0 v1 v2 (.slice ad m cap)] w fun e w' => e = .returned (.bool false) ∧ Below w.heap.size w w' := by
  obtain ⟨q1, q2, q3⟩ := list_ne oth ho
  go_enter Tryd.func84, Tryd.ntmps84
  go_wp2
  go_ret
  exact ⟨rfl, by go_grown⟩
set_option maxRecDepth 20000 in
theorem rpl3_y  (v0 v1 : Int) (v2 : ByteArray) (z : Bool) (hve : ∀ W : World, (binOp .eql 32 (.agg #[.int .i64 v0, .int .i64 v1, .string v2]) (.agg #[.int .i64 0, .int .i64 0, .string ⟨#[]⟩])).run Tryd.prog W = .ok (.bool z) W) (ad : Option Addr) (m cap : Nat) (w : World) :
    Calls Tryd.prog 84 #[agC 3 ⟨#[]⟩ ⟨#[]⟩ v0 v1 v2 (.slice ad 0 cap)] w fun e w' => e = .returned (.bool z) ∧ Below w.heap.size w w' := by
  cases z
  · go_enter Tryd.func84, Tryd.ntmps84
    go_wp2
    go_ret
    exact ⟨rfl, by go_grown⟩
  · go_enter Tryd.func84, Tryd.ntmps84
    go_wp2
    go_ret
    exact ⟨rfl, by go_grown⟩
set_option maxRecDepth 20000 in
theorem rpl3_n (v0 v1 : Int) (v2 : ByteArray) (z : Bool) (hve : ∀ W : World, (binOp .eql 32 (.agg #[.int .i64 v0, .int .i64 v1, .string v2]) (.agg #[.int .i64 0, .int .i64 0, .string ⟨#[]⟩])).run Tryd.prog W = .ok (.bool z) W) (ad : Option Addr) (m cap : Nat) (w : World) (hm : ¬ m = 0) :
    Calls Tryd.prog 84 #[agC 3 ⟨#[]⟩ ⟨#[]⟩ v0 v1 v2 (.slice ad m cap)] w fun e w' => e = .returned (.bool false) ∧ Below w.heap.size w w' := by
  have hm2 : ¬ (m : Int) = 0 := by omega
  have hm3 : ((m : Int) == 0) = false := by simp; omega
  cases z
  · go_enter Tryd.func84, Tryd.ntmps84
    go_wp2
    go_ret
    exact ⟨rfl, by go_grown⟩
  · go_enter Tryd.func84, Tryd.ntmps84
    go_wp2
    go_ret
    exact ⟨rfl, by go_grown⟩
set_option maxRecDepth 20000 in
theorem rpl4_c (col oth : ByteArray) (hc : ¬ col = ⟨#[]⟩) (v0 v1 : Int) (v2 : ByteArray) (z : Bool) (hve : ∀ W : World, (binOp .eql 32 (.agg #[.int .i64 v0, .int .i64 v1, .string v2]) (.agg #[.int .i64 0, .int .i64 0, .string ⟨#[]⟩])).run Tryd.prog W = .ok (.bool z) W) (ad : Option Addr) (m cap : Nat) (w : World) :
    Calls Tryd.prog 84 #[agC 4 col oth v0 v1 v2 (.slice ad m cap)] w fun e w' => e = .returned (.bool false) ∧ Below w.heap.size w w' := by
  obtain ⟨p1, p2, p3⟩ := list_ne col hc
  go_enter Tryd.func84, Tryd.ntmps84
  go_wp2
  go_ret
  exact ⟨rfl, by go_grown⟩
set_option maxRecDepth 20000 in
theorem rpl4_o (oth : ByteArray) (ho : ¬ oth = ⟨#[]⟩) (v0 v1 : Int) (v2 : ByteArray) (z : Bool) (hve : ∀ W : World, (binOp .eql 32 (.agg #[.int .i64 v0, .int .i64 v1, .string v2]) (.agg #[.int .i64 0, .int .i64 0, .string ⟨#[]⟩])).run Tryd.prog W = .ok (.bool z) W) (ad : Option Addr) (m cap : Nat) (w : World) :
    Calls Tryd.prog 84 #[agC 4 ⟨#[]⟩ oth v0 v1 v2 (.slice ad m cap)] w fun e w' => e = .returned (.bool false) ∧ Below w.heap.size w w' := by
  obtain ⟨q1, q2, q3⟩ := list_ne oth ho
  go_enter Tryd.func84, Tryd.ntmps84
  go_wp2
  go_ret
  exact ⟨rfl, by go_grown⟩
set_option maxRecDepth 20000 in
theorem rpl4_y  (v0 v1 : Int) (v2 : ByteArray) (z : Bool) (hve : ∀ W : World, (binOp .eql 32 (.agg #[.int .i64 v0, .int .i64 v1, .string v2]) (.agg #[.int .i64 0, .int .i64 0, .string ⟨#[]⟩])).run Tryd.prog W = .ok (.bool z) W) (ad : Option Addr) (m cap : Nat) (w : World) :
    Calls Tryd.prog 84 #[agC 4 ⟨#[]⟩ ⟨#[]⟩ v0 v1 v2 (.slice ad 1 cap)] w fun e w' => e = .returned (.bool z) ∧ Below w.heap.size w w' := by
  cases z
  · go_enter Tryd.func84, Tryd.ntmps84
    go_wp2
    go_ret
    exact ⟨rfl, by go_grown⟩
  · go_enter Tryd.func84, Tryd.ntmps84
    go_wp2
    go_ret
    exact ⟨rfl, by go_grown⟩
set_option maxRecDepth 20000 in
theorem rpl4_n (v0 v1 : Int) (v2 : ByteArray) (z : Bool) (hve : ∀ W : World, (binOp .eql 32 (.agg #[.int .i64 v0, .int .i64 v1, .string v2]) (.agg #[.int .i64 0, .int .i64 0, .string ⟨#[]⟩])).run Tryd.prog W = .ok (.bool z) W) (ad : Option Addr) (m cap : Nat) (w : World) (hm : ¬ m = 1) :
    Calls Tryd.prog 84 #[agC 4 ⟨#[]⟩ ⟨#[]⟩ v0 v1 v2 (.slice ad m cap)] w fun e w' => e = .returned (.bool false) ∧ Below w.heap.size w w' := by
  have hm2 : ¬ (m : Int) = 1 := by omega
  have hm3 : ((m : Int) == 1) = false := by simp; omega
  cases z
  · go_enter Tryd.func84, Tryd.ntmps84
    go_wp2
    go_ret
    exact ⟨rfl, by go_grown⟩
  · go_enter Tryd.func84, Tryd.ntmps84
    go_wp2
    go_ret
    exact ⟨rfl, by go_grown⟩
set_option maxRecDepth 20000 in
theorem rpl5_c (col oth : ByteArray) (hc : ¬ col = ⟨#[]⟩) (v0 v1 : Int) (v2 : ByteArray) (z : Bool) (hve : ∀ W : World, (binOp .eql 32 (.agg #[.int .i64 v0, .int .i64 v1, .string v2]) (.agg #[.int .i64 0, .int .i64 0, .string ⟨#[]⟩])).run Tryd.prog W = .ok (.bool z) W) (ad : Option Addr) (m cap : Nat) (w : World) :
    Calls Tryd.prog 84 #[agC 5 col oth v0 v1 v2 (.slice ad m cap)] w fun e w' => e = .returned (.bool false) ∧ Below w.heap.size w w' := by
  obtain ⟨p1, p2, p3⟩ := list_ne col hc
  go_enter Tryd.func84, Tryd.ntmps84
  go_wp2
  go_ret
  exact ⟨rfl, by go_grown⟩
set_option maxRecDepth 20000 in
theorem rpl5_o (oth : ByteArray) (ho : ¬ oth = ⟨#[]⟩) (v0 v1 : Int) (v2 : ByteArray) (z : Bool) (hve : ∀ W : World, (binOp .eql 32 (.agg #[.int .i64 v0, .int .i64 v1, .string v2]) (.agg #[.int .i64 0, .int .i64 0, .string ⟨#[]⟩])).run Tryd.prog W = .ok (.bool z) W) (ad : Option Addr) (m cap : Nat) (w : World) :
    Calls Tryd.prog 84 #[agC 5 ⟨#[]⟩ oth v0 v1 v2 (.slice ad m cap)] w fun e w' => e = .returned (.bool false) ∧ Below w.heap.size w w' := by
  obtain ⟨q1, q2, q3⟩ := list_ne oth ho
  go_enter Tryd.func84, Tryd.ntmps84
  go_wp2
  go_ret
  exact ⟨rfl, by go_grown⟩
set_option maxRecDepth 20000 in
theorem rpl5_y  (v0 v1 : Int) (v2 : ByteArray) (z : Bool) (hve : ∀ W : World, (binOp .eql 32 (.agg #[.int .i64 v0, .int .i64 v1, .string v2]) (.agg #[.int .i64 0, .int .i64 0, .string ⟨#[]⟩])).run Tryd.prog W = .ok (.bool z) W) (ad : Option Addr) (m cap : Nat) (w : World) :
    Calls Tryd.prog 84 #[agC 5 ⟨#[]⟩ ⟨#[]⟩ v0 v1 v2 (.slice ad 2 cap)] w fun e w' => e = .returned (.bool z) ∧ Below w.heap.size w w' := by
  cases z
  · go_enter Tryd.func84, Tryd.ntmps84
    go_wp2
    go_ret
    exact ⟨rfl, by go_grown⟩
  · go_enter Tryd.func84, Tryd.ntmps84
    go_wp2
    go_ret
    exact ⟨rfl, by go_grown⟩
set_option maxRecDepth 20000 in
theorem rpl5_n (v0 v1 : Int) (v2 : ByteArray) (z : Bool) (hve : ∀ W : World, (binOp .eql 32 (.agg #[.int .i64 v0, .int .i64 v1, .string v2]) (.agg #[.int .i64 0, .int .i64 0, .string ⟨#[]⟩])).run Tryd.prog W = .ok (.bool z) W) (ad : Option Addr) (m cap : Nat) (w : World) (hm : ¬ m = 2) :
    Calls Tryd.prog 84 #[agC 5 ⟨#[]⟩ ⟨#[]⟩ v0 v1 v2 (.slice ad m cap)] w fun e w' => e = .returned (.bool false) ∧ Below w.heap.size w w' := by
  have hm2 : ¬ (m : Int) = 2 := by omega
  have hm3 : ((m : Int) == 2) = false := by simp; omega
  cases z
  · go_enter Tryd.func84, Tryd.ntmps84
    go_wp2
    go_ret
    exact ⟨rfl, by go_grown⟩
  · go_enter Tryd.func84, Tryd.ntmps84
    go_wp2
    go_ret
    exact ⟨rfl, by go_grown⟩
set_option maxRecDepth 20000 in
theorem rpl6_c (col oth : ByteArray) (hc : ¬ col = ⟨#[]⟩) (v0 v1 : Int) (v2 : ByteArray) (z : Bool) (hve : ∀ W : World, (binOp .eql 32 (.agg #[.int .i64 v0, .int .i64 v1, .string v2]) (.agg #[.int .i64 0, .int .i64 0, .string ⟨#[]⟩])).run Tryd.prog W = .ok (.bool z) W) (ad : Option Addr) (m cap : Nat) (w : World) :
    Calls Tryd.prog 84 #[agC 6 col oth v0 v1 v2 (.slice ad m cap)] w fun e w' => e = .returned (.bool false) ∧ Below w.heap.size w w' := by
  obtain ⟨p1, p2, p3⟩ := list_ne col hc
  go_enter Tryd.func84, Tryd.ntmps84
  go_wp2
  go_ret
  exact ⟨rfl, by go_grown⟩
set_option maxRecDepth 20000 in
theorem rpl6_o (oth : ByteArray) (ho : ¬ oth = ⟨#[]⟩) (v0 v1 : Int) (v2 : ByteArray) (z : Bool) (hve : ∀ W : World, (binOp .eql 32 (.agg #[.int .i64 v0, .int .i64 v1, .string v2]) (.agg #[.int .i64 0, .int .i64 0, .string ⟨#[]⟩])).run Tryd.prog W = .ok (.bool z) W) (ad : Option Addr) (m cap : Nat) (w : World) :
    Calls Tryd.prog 84 #[agC 6 ⟨#[]⟩ oth v0 v1 v2 (.slice ad m cap)] w fun e w' => e = .returned (.bool false) ∧ Below w.heap.size w w' := by
  obtain ⟨q1, q2, q3⟩ := list_ne oth ho
  go_enter Tryd.func84, Tryd.ntmps84
  go_wp2
  go_ret
  exact ⟨rfl, by go_grown⟩
set_option maxRecDepth 20000 in
theorem rpl6_y  (v0 v1 : Int) (v2 : ByteArray) (z : Bool) (hve : ∀ W : World, (binOp .eql 32 (.agg #[.int .i64 v0, .int .i64 v1, .string v2]) (.agg #[.int .i64 0, .int .i64 0, .string ⟨#[]⟩])).run Tryd.prog W = .ok (.bool z) W) (ad : Option Addr) (m cap : Nat) (w : World) :
    Calls Tryd.prog 84 #[agC 6 ⟨#[]⟩ ⟨#[]⟩ v0 v1 v2 (.slice ad 2 cap)] w fun e w' => e = .returned (.bool z) ∧ Below w.heap.size w w' := by
  cases z
  · go_enter Tryd.func84, Tryd.ntmps84
    go_wp2
    go_ret
    exact ⟨rfl, by go_grown⟩
  · go_enter Tryd.func84, Tryd.ntmps84
    go_wp2
    go_ret
    exact ⟨rfl, by go_grown⟩
set_option maxRecDepth 20000 in
theorem rpl6_n (v0 v1 : Int) (v2 : ByteArray) (z : Bool) (hve : ∀ W : World, (binOp .eql 32 (.agg #[.int .i64 v0, .int .i64 v1, .string v2]) (.agg #[.int .i64 0, .int .i64 0, .string ⟨#[]⟩])).run Tryd.prog W = .ok (.bool z) W) (ad : Option Addr) (m cap : Nat) (w : World) (hm : ¬ m = 2) :
    Calls Tryd.prog 84 #[agC 6 ⟨#[]⟩ ⟨#[]⟩ v0 v1 v2 (.slice ad m cap)] w fun e w' => e = .returned (.bool false) ∧ Below w.heap.size w w' := by
  have hm2 : ¬ (m : Int) = 2 := by omega
  have hm3 : ((m : Int) == 2) = false := by simp; omega
  cases z
  · go_enter Tryd.func84, Tryd.ntmps84
    go_wp2
    go_ret
    exact ⟨rfl, by go_grown⟩
  · go_enter Tryd.func84, Tryd.ntmps84
    go_wp2
    go_ret
    exact ⟨rfl, by go_grown⟩
set_option maxRecDepth 20000 in
theorem rpl_else (k : Int) (h1 : ¬ k = 1) (h2 : ¬ k = 2) (h3 : ¬ k = 3) (h4 : ¬ k = 4) (h5 : ¬ k = 5) (h6 : ¬ k = 6) (col oth : ByteArray) (v0 v1 : Int) (v2 : ByteArray) (z : Bool) (hve : ∀ W : World, (binOp .eql 32 (.agg #[.int .i64 v0, .int .i64 v1, .string v2]) (.agg #[.int .i64 0, .int .i64 0, .string ⟨#[]⟩])).run Tryd.prog W = .ok (.bool z) W) (ad : Option Addr) (m cap : Nat) (w : World) :
    Calls Tryd.prog 84 #[agC k col oth v0 v1 v2 (.slice ad m cap)] w fun e w' => e = .returned (.bool false) ∧ Below w.heap.size w w' := by
  go_enter Tryd.func84, Tryd.ntmps84
  go_wp2
  go_ret
  exact ⟨rfl, by go_grown⟩
theorem rplain_any (k : Int) (col oth : ByteArray) (v0 v1 : Int) (v2 : ByteArray) (ad : Option Addr) (m cap : Nat) (w : World) (hv2 : v2.size ≤ 9223372036854775807) :
    Calls Tryd.prog 84 #[agC k col oth v0 v1 v2 (.slice ad m cap)] w fun e w' => e = .returned (.bool (okN k col oth (v0, v1, v2) m)) ∧ Below w.heap.size w w' := by
  have hve : ∀ W : World, (binOp .eql 32 (.agg #[.int .i64 v0, .int .i64 v1, .string v2]) (.agg #[.int .i64 0, .int .i64 0, .string ⟨#[]⟩])).run Tryd.prog W = .ok (.bool (decide (((v0, v1, v2) : V3) = zeroV))) W := fun W => val_eq (v0, v1, v2) zeroV W
  have z0 : (⟨#[]⟩ : ByteArray).size = 0 := rfl
  by_cases hk : k = 1 ∨ k = 2
  · rw [okN12 k hk]
    by_cases hc : col = ⟨#[]⟩
    · subst hc
      rw [show (decide ((⟨#[]⟩ : ByteArray).size ≠ 0) && decide (m = 0) && (if oth.size = 0 then validV (v0, v1, v2) else decide (((v0, v1, v2) : V3) = zeroV))) = false from rfl]
      rcases hk with rfl | rfl
      · exact rpl1_c oth v0 v1 v2 _ hve ad m cap w
      · exact rpl2_c oth v0 v1 v2 _ hve ad m cap w
    · have hcs := size0 col hc
      rw [show decide (col.size ≠ 0) = true by simpa using hcs, Bool.true_and]
      by_cases hm : m = 0
      · subst hm
        rw [decide_eq_true rfl, Bool.true_and]
        by_cases ho : oth = ⟨#[]⟩
        · subst ho
          rw [if_pos z0]
          have HV := fun W => rvalid_any (v0, v1, v2) W hv2
          rcases hk with rfl | rfl
          · exact rpl1_e col hc v0 v1 v2 _ hve ad 0 cap w _ HV
          · exact rpl2_e col hc v0 v1 v2 _ hve ad 0 cap w _ HV
        · rw [if_neg (size0 oth ho)]
          rcases hk with rfl | rfl
          · exact rpl1_o col oth hc ho v0 v1 v2 _ hve ad 0 cap w
          · exact rpl2_o col oth hc ho v0 v1 v2 _ hve ad 0 cap w
      · rw [decide_eq_false hm, Bool.false_and]
        rcases hk with rfl | rfl
        · exact rpl1_l col oth hc v0 v1 v2 _ hve ad m cap w hm
        · exact rpl2_l col oth hc v0 v1 v2 _ hve ad m cap w hm
  by_cases hk2 : k = 3 ∨ k = 4 ∨ k = 5 ∨ k = 6
  · rw [okN3456 k hk2]
    by_cases hc : col = ⟨#[]⟩
    case neg =>
      rw [decide_eq_false (size0 col hc), Bool.false_and, Bool.false_and, Bool.false_and]
      rcases hk2 with rfl | rfl | rfl | rfl
      · exact rpl3_c col oth hc v0 v1 v2 _ hve ad m cap w
      · exact rpl4_c col oth hc v0 v1 v2 _ hve ad m cap w
      · exact rpl5_c col oth hc v0 v1 v2 _ hve ad m cap w
      · exact rpl6_c col oth hc v0 v1 v2 _ hve ad m cap w
    subst hc
    rw [decide_eq_true z0, Bool.true_and]
    by_cases ho : oth = ⟨#[]⟩
    case neg =>
      rw [decide_eq_false (size0 oth ho), Bool.false_and, Bool.false_and]
      rcases hk2 with rfl | rfl | rfl | rfl
      · exact rpl3_o oth ho v0 v1 v2 _ hve ad m cap w
      · exact rpl4_o oth ho v0 v1 v2 _ hve ad m cap w
      · exact rpl5_o oth ho v0 v1 v2 _ hve ad m cap w
      · exact rpl6_o oth ho v0 v1 v2 _ hve ad m cap w
    subst ho
    rw [decide_eq_true z0, Bool.true_and]
    by_cases hm : m = arity k
    · rw [decide_eq_true hm, Bool.and_true]
      rcases hk2 with rfl | rfl | rfl | rfl
      · rw [show m = 0 from hm]; exact rpl3_y v0 v1 v2 _ hve ad 0 cap w
      · rw [show m = 1 from hm]; exact rpl4_y v0 v1 v2 _ hve ad 0 cap w
      · rw [show m = 2 from hm]; exact rpl5_y v0 v1 v2 _ hve ad 0 cap w
      · rw [show m = 2 from hm]; exact rpl6_y v0 v1 v2 _ hve ad 0 cap w
    · rw [decide_eq_false hm, Bool.and_false]
      rcases hk2 with rfl | rfl | rfl | rfl
      · exact rpl3_n v0 v1 v2 _ hve ad m cap w hm
      · exact rpl4_n v0 v1 v2 _ hve ad m cap w hm
      · exact rpl5_n v0 v1 v2 _ hve ad m cap w hm
      · exact rpl6_n v0 v1 v2 _ hve ad m cap w hm
  · rw [show okN k col oth (v0, v1, v2) m = false by unfold okN; rw [if_neg hk, if_neg hk2]]
    exact rpl_else k (by omega) (by omega) (by omega) (by omega) (by omega) (by omega) col oth v0 v1 v2 _ hve ad m cap w
end Go.Proofs.YtgfppajbegcaeaaDoor.Va
