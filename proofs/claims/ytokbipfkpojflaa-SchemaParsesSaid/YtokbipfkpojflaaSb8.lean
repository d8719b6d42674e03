/-
  The walk of the reference's Parse (layer 34).
-/
import Derived.Test.YtokbipfkpojflaaSbM
import Derived.Deep.Cut
set_option linter.unusedSimpArgs false
set_option linter.unusedVariables false
namespace Go.Proofs.Ytokbipfkpojflaa.Sc
open Go Go.RowKit Go.ChangeShapes Go.WideShapes Go.Proofs.Ytokbipfkpojflaa.Sl Go.Lib
open Go.Proofs.Ytokbipfkpojflaa.Lx (Tok tokV cellsT cellsT_len cellsT_app cellsT_one)
open Go.Proofs.Ytokbipfkpojflaa.Va (Cl flatC flatC_len flatC_snoc Cs)

theorem qi_start (w w1 : World) (va : Option Addr) (n vc : Nat) (c6 : Array Value) :
    QI w w1 (w1.heap.size + 1 + 1 + 1) (w1.heap.size + 1) (w1.heap.size + 1 + 1) (w1.heap.size + 1) #[.slice va n vc, .int .i64 0, .int .i64 0, .int .i64 0, .int .i64 0] ⟨#[]⟩ (.slice none 0 0) 0 (.slice none 0 0) [] []
      (((w1.alloc (.cells c6 45)).alloc (.cells #[.slice va n vc, .int .i64 0, .int .i64 0, .int .i64 0, .int .i64 0] 108)).alloc (.cells #[.string ⟨#[]⟩, .slice none 0 0, .int .i64 0, .slice none 0 0] 28)) := by
  have n1 : (w1.alloc (.cells c6 45)).heap.size = w1.heap.size + 1 := by simp
  have hR := Bx.new (w1.alloc (.cells c6 45)) 108 #[.slice va n vc, .int .i64 0, .int .i64 0, .int .i64 0, .int .i64 0]
  rw [n1] at hR
  have n2 : ((w1.alloc (.cells c6 45)).alloc (.cells #[.slice va n vc, .int .i64 0, .int .i64 0, .int .i64 0, .int .i64 0] 108)).heap.size = w1.heap.size + 1 + 1 := by simp
  have h9 := Bx.new ((w1.alloc (.cells c6 45)).alloc (.cells #[.slice va n vc, .int .i64 0, .int .i64 0, .int .i64 0, .int .i64 0] 108)) 28 #[.string ⟨#[]⟩, .slice none 0 0, .int .i64 0, .slice none 0 0]
  rw [n2] at h9
  have l1 := (Below.refl w1.heap.size w1).alloc (Nat.le_refl _) (.cells c6 45)
  have l2 := l1.alloc (by omega) (.cells #[.slice va n vc, .int .i64 0, .int .i64 0, .int .i64 0, .int .i64 0] 108)
  have l3 := l2.alloc (by omega) (.cells #[.string ⟨#[]⟩, .slice none 0 0, .int .i64 0, .slice none 0 0] 28)
  exact ⟨l3, hR.alloc _, h9, World.ownsRow_nil _ _ _ _, by simp [Value.ownBlock], FInv.nil _ _ _ _, .inl rfl, by simp⟩
def jOf (wr : World) (RB : Nat) : Nat := match wr.cell? ⟨RB, 1, none⟩ with
  | some (.int _ z) => z.toNat
  | _ => 0
def eOf (wr : World) (RB : Nat) : Int := match wr.cell? ⟨RB, 4, none⟩ with
  | some (.int _ z) => z
  | _ => 1
def mB (n RB : Nat) (i : Value) (wr : World) : Nat := match i with
  | .bool true => n + 1 - jOf wr RB
  | _ => 0
def mE (n RB : Nat) (wr : World) : Nat := if eOf wr RB = 0 then n + 1 - jOf wr RB else 0
theorem jOf_is {wr : World} {RB : Nat} {t : TypeId} {a0 a2 a3 a4 : Value} {j : Nat} (h : Bx wr RB t #[a0, .int .i64 (j : Nat), a2, a3, a4]) : jOf wr RB = j := by
  unfold jOf
  rw [h.cell 1 _ rfl]
  simp
theorem eOf_is {wr : World} {RB : Nat} {t : TypeId} {a0 a1 a2 a3 : Value} {z : Int} (h : Bx wr RB t #[a0, a1, a2, a3, .int .i64 z]) : eOf wr RB = z := by
  unfold eOf
  rw [h.cell 4 _ rfl]
  rfl
theorem RQ.len {L : List Tok} {i : Nat} {r : Rd} (h : RQ L i r) : r.toks.length = L.length - i := by rw [h.2, List.length_drop]
/-- The columns' loop. -/
def L1 (l : List Tok) (Ws : World) (RB OB : Nat) (va : Option Addr) (n vc : Nat) (nm : ByteArray) (i : Value) (W : World) : Prop :=
  ∃ (b : Bool) (r : Rd) (cl : List Cl) (j : Nat) (v : Value), i = .bool b ∧ Hid (RQ l j r) ∧
    Hid (LI 28 Ws RB OB #[.slice va n vc, .int .i64 (j : Nat), .int .i64 r.p.1, .int .i64 r.p.2, .int .i64 r.e] #[.string nm, v, .int .i64 0, .slice none 0 0] 78 2 v cl.length (flatC cl) W) ∧
    Hid (if b = true then rlR colIt (r.toks.length + 1) (r, cl) = q3 l else (r, cl) = q3 l) ∧ Hid (b = true → cl.length + r.toks.length ≤ 65537)
/-- The loop of a foreign key's columns. -/
def L3 (l : List Tok) (r0 : Rd) (Ws : World) (RB GB : Nat) (va : Option Addr) (n vc : Nat) (i : Value) (W : World) : Prop :=
  ∃ (b : Bool) (r : Rd) (gl : List ByteArray) (j : Nat) (v : Value), i = .bool b ∧ Hid (RQ l j r) ∧
    Hid (LI 55 Ws RB GB #[.slice va n vc, .int .i64 (j : Nat), .int .i64 r.p.1, .int .i64 r.p.2, .int .i64 r.e] #[v, .string ⟨#[]⟩] 9 1 v gl.length (gl.map .string) W) ∧
    Hid (if b = true then rlR frnIt (r.toks.length + 1) (r, gl) = rfrQ r0 else (r, gl) = rfrQ r0) ∧ Hid (b = true → gl.length + r.toks.length ≤ 65537)
/-- The loop of the foreign keys. -/
def L2 (l : List Tok) (w w1 : World) (N RB OB : Nat) (va : Option Addr) (n vc : Nat) (nm : ByteArray) (v : Value) (k : Int) (cl : List Cl) (W : World) : Prop :=
  ∃ (K : Nat) (r : Rd) (fr : List Fr) (j : Nat) (vf : Value), Hid (RQ l j r) ∧ Hid (QI w w1 N RB OB K #[.slice va n vc, .int .i64 (j : Nat), .int .i64 r.p.1, .int .i64 r.p.2, .int .i64 r.e] nm v k vf cl fr W) ∧
    Hid (rfrR (r.toks.length + 1) (r, fr) = q8 l) ∧ Hid (r.e = 0 → fr.length + r.toks.length ≤ 65537)
theorem findZ_kw (x : ByteArray) : (Lib.containsS kwL x = true ∧ Lx.findZ kwL x = (Lib.idxOfS kwL x + 1, 0)) ∨ (Lib.containsS kwL x = false ∧ Lx.findZ kwL x = (Lib.idxOfS kwL x + 1, 3)) := by
  rcases Lx.findF_idx x kwL 0 with ⟨h1, h2⟩ | ⟨h1, _, h2⟩
  · right
    rcases idx_le kwL x 0 with h3 | ⟨h3, _⟩
    · refine ⟨by unfold Lib.containsS Lib.idxOfS; exact decide_eq_false (by omega), ?_⟩
      show Lx.findF 0 kwL x = _
      rw [h2]
      unfold Lib.idxOfS
      rw [h3]
      rfl
    · simp at h3; omega
  · left
    refine ⟨by unfold Lib.containsS Lib.idxOfS; exact decide_eq_true h1, ?_⟩
    show Lx.findF 0 kwL x = _
    rw [h2]
    rfl
theorem ts_li {T : TypeId} {w w1 Ws W : World} {N RB OB PB K : Nat} {rd rd' pc : Array Value} {nm : ByteArray} {v v' v0 : Value} {k : Int} {vf : Value} {cl : List Cl} {fr : List Fr} {e : TypeId} {size n' : Nat} {xs : List Value} {l : List Tok} (ht : Ts w1 v0 l) (hq : QI w w1 N RB OB K rd nm v k vf cl fr Ws) (hl : LI T Ws RB PB rd' pc e size v' n' xs W) (hp : w1.heap.size ≤ PB) : Ts W v0 l :=
  ht.below (hl.f.below hq.b (fun j hj => by simp at hj; have := hq.n; omega))
theorem LI.cast {T : TypeId} {Ws W : World} {RB PB : Nat} {rd pc : Array Value} {e : TypeId} {size : Nat} {v : Value} {n n' : Nat} {xs xs' : List Value} (h : LI T Ws RB PB rd pc e size v n xs W) (hn : n = n') (hx : xs = xs') : LI T Ws RB PB rd pc e size v n' xs' W := hn ▸ hx ▸ h
theorem rfailQ' (L : List Tok) (a : Option Addr) (n c i : Nat) (r : Rd) (t : Tok) (x : Int) (w : World) (hn : n = L.length) (h6 : n ≤ 1000000) (ht : Ts w (.slice a n c) L) (hq : RQ L i r) (hl : r.e = 0 → LstT L i t) : Calls Try.prog 74 #[rdV a n c i r.p r.e, .int .i64 x] w fun y w' => y = .returned (rdV a n c i (failR r t x).p (failR r t x).e) ∧ RQ L i (failR r t x) ∧ Below w.heap.size w w' := rfailQ L a n c i r t x w hn h6 ht hq hl
theorem rtokens_big (s : ByteArray) (w : World) (hs : 65536 < s.size) : Calls Try.prog 69 #[.string s] w fun e w' => e = .returned (tokX (.slice none 0 0) (0, 0) 5) ∧ Below w.heap.size w w' := by
  have h1 : (65536 : Int) < (s.size : Int) := by omega
  go_enter Try.func69, Try.ntmps69
  go_wp2
  refine bodyPost_ret (v := tokX (.slice none 0 0) (0, 0) 5) (by simp [results, Try.results69, go_sem, tokX, posV]; try rfl) rfl ?_
  exact ⟨rfl, by go_grown⟩
set_option maxRecDepth 20000 in
set_option maxHeartbeats 40000000 in
theorem rparse_go (s : ByteArray) (w : World) (hs : s.size ≤ 65536) (h0 : (tokS s).2.2 = 0) : Calls Try.prog 22 #[.string s] w (PrsP w (prsS s).1 (prsS s).2.1 (prsS s).2.2) := by
  have HT := fun W => rtokens_ok s W hs
  have HSH := Lib.hid (tokS_short s hs)
  have HR := Lib.hid (show prsS s = _ from by unfold prsS; rw [if_neg (by omega), if_neg (by omega)])
  rw [h0] at HT
  generalize prsS s = R at HR ⊢
  generalize (tokS s).1 = l at HT HSH HR
  generalize (tokS s).2.1 = p at HT
  obtain ⟨n, hn⟩ : ∃ n, n = l.length := ⟨_, rfl⟩
  have HN := Lib.hid hn
  clear h0 hn
  go_enter Try.func22, Try.ntmps22
  go_upto_region 6 with (go_at_call 69; (with_reducible refine (HT _).mono ?_); rintro e w1 ⟨v, rfl, ht, hb⟩; unfold tokX posV; obtain ⟨va, vc, rfl⟩ := ht.1.form; rw [← HN.out] at ht ⊢)
  have hn6 : n ≤ 1000000 := by have := HSH.out.1; have := HN.out; omega
  have hq0 := qi_start w w1 va n vc #[.int .i64 p.1, .int .i64 p.2]
  have e1 : (w.alloc (.cells #[.string ⟨#[]⟩, .slice none 0 0, .int .i64 0, .slice none 0 0] 28)).heap.size = w.heap.size + 1 := by simp
  have hb2 := ((Bx.new w 28 #[.string ⟨#[]⟩, .slice none 0 0, .int .i64 0, .slice none 0 0]).alloc (.cells #[.int .i64 0, .int .i64 0] 45)).below hb
  have hb3 := (Bx.new (w.alloc (.cells #[.string ⟨#[]⟩, .slice none 0 0, .int .i64 0, .slice none 0 0] 28)) 45 #[.int .i64 0, .int .i64 0]).below hb
  rw [e1] at hb3
  have hsz := hb.size
  simp at hsz
  have hL1 : Below w.heap.size w w1 := bstep (((Below.refl _ w).alloc (Nat.le_refl _) _).alloc (by simp) _) hb
  have HT1 := Lib.hid ht
  have HB2 := Lib.hid hb2
  have HB3 := Lib.hid hb3
  have HL1 := Lib.hid hL1
  have HSZ : Hid (w.heap.size + 1 < w1.heap.size) := Lib.hid (by omega)
  clear ht hb hb2 hb3 hL1 hsz e1 HT
  generalize (((w1.alloc (.cells #[.int .i64 p.1, .int .i64 p.2] 45)).alloc (.cells #[.slice va n vc, .int .i64 0, .int .i64 0, .int .i64 0, .int .i64 0] 108)).alloc (.cells #[.string ⟨#[]⟩, .slice none 0 0, .int .i64 0, .slice none 0 0] 28)) = W2 at hq0 ⊢
  generalize w1.heap.size + 1 + 1 + 1 = N at hq0
  generalize w1.heap.size + 1 + 1 = OB at hq0 ⊢
  generalize w1.heap.size + 1 = RB at hq0 ⊢
  have hRO : ¬ RB = OB := by have := hq0.n; omega
  have hOR : ¬ OB = RB := fun e => hRO e.symm
  have HNN := Lib.hid (show w1.heap.size ≤ RB ∧ RB < OB ∧ OB < N from ⟨hq0.n.1, hq0.n.2.1, hq0.n.2.2.1⟩)
  have H0 := Lib.hid hq0
  have Q0 := Lib.hid (show RQ l 0 ⟨l, (0, 0), 0⟩ from ⟨Nat.zero_le _, rfl⟩)
  clear hq0
  have HC : Calls Try.prog 70 #[.agg #[.slice va n vc, .int .i64 0, .int .i64 0, .int .i64 0, .int .i64 0], .string ⟨#[116, 97, 98, 108, 101]⟩] W2 fun y w' => ∃ i' : Nat, y = .returned (.agg #[.slice va n vc, .int .i64 (i' : Nat), .int .i64 (p1 l).p.1, .int .i64 (p1 l).p.2, .int .i64 (p1 l).e]) ∧ RQ l i' ((p1 l)) ∧ Below W2.heap.size W2 w' := rwordQ l va n vc 0 ⟨l, (0, 0), 0⟩ ⟨#[116, 97, 98, 108, 101]⟩ W2 HN.out hn6 (HT1.out.below H0.out.b) Q0.out
  have d0 := (H0.out.rd).cell 0 _ rfl
  have d1 := (H0.out.rd).cell 1 _ rfl
  have d2 := (H0.out.rd).cell 2 _ rfl
  have d3 := (H0.out.rd).cell 3 _ rfl
  have d4 := (H0.out.rd).cell 4 _ rfl
  go_upto_region 7 with (go_at_call 70; (with_reducible refine HC.mono ?_); rintro y W3c ⟨j3, rfl, hq, hb⟩; have hH := H0.out.below hb; have e0 := (hH.rd).cell 0 _ rfl; have e1 := (hH.rd).cell 1 _ rfl; have e2 := (hH.rd).cell 2 _ rfl; have e3 := (hH.rd).cell 3 _ rfl; have e4 := (hH.rd).cell 4 _ rfl; have f0 := (hH.rd).frozen 0; have f1 := (hH.rd).frozen 1; have f2 := (hH.rd).frozen 2; have f3 := (hH.rd).frozen 3; have f4 := (hH.rd).frozen 4; have hlt := hH.rd.lt)
  have hN := Lib.hid ((hH).set_rd rfl (.slice va n vc) (.int .i64 (j3 : Nat)) (.int .i64 (p1 l).p.1) (.int .i64 (p1 l).p.2) (.int .i64 (p1 l).e))
  have Q3 := Lib.hid hq
  clear HC d0 d1 d2 d3 d4 e0 e1 e2 e3 e4 f0 f1 f2 f3 f4 hlt hH hq hb H0 Q0
  generalize (((((W3c.setCell ⟨RB, 0, none⟩ (.slice va n vc)).setCell ⟨RB, 1, none⟩ (.int .i64 (j3 : Nat))).setCell ⟨RB, 2, none⟩ (.int .i64 (p1 l).p.1)).setCell ⟨RB, 3, none⟩ (.int .i64 (p1 l).p.2)).setCell ⟨RB, 4, none⟩ (.int .i64 (p1 l).e)) = W3 at *
  have H3 := hN
  clear hN
  have HC : Calls Try.prog 71 #[.agg #[.slice va n vc, .int .i64 (j3 : Nat), .int .i64 (p1 l).p.1, .int .i64 (p1 l).p.2, .int .i64 (p1 l).e]] W3 fun y w' => ∃ i' : Nat, y = .returned (.tuple #[.string (p2 l).1, .agg #[.slice va n vc, .int .i64 (i' : Nat), .int .i64 (p2 l).2.p.1, .int .i64 (p2 l).2.p.2, .int .i64 (p2 l).2.e]]) ∧ RQ l i' ((p2 l).2) ∧ Below W3.heap.size W3 w' := rnameQ l va n vc j3 (p1 l) W3 HN.out hn6 (HT1.out.below H3.out.b) Q3.out
  have d0 := (H3.out.rd).cell 0 _ rfl
  have d1 := (H3.out.rd).cell 1 _ rfl
  have d2 := (H3.out.rd).cell 2 _ rfl
  have d3 := (H3.out.rd).cell 3 _ rfl
  have d4 := (H3.out.rd).cell 4 _ rfl
  go_upto_region 8 with (go_at_call 71; (with_reducible refine HC.mono ?_); rintro y W4c ⟨j4, rfl, hq, hb⟩; have hH := H3.out.below hb; have e0 := (hH.rd).cell 0 _ rfl; have e1 := (hH.rd).cell 1 _ rfl; have e2 := (hH.rd).cell 2 _ rfl; have e3 := (hH.rd).cell 3 _ rfl; have e4 := (hH.rd).cell 4 _ rfl; have f0 := (hH.rd).frozen 0; have f1 := (hH.rd).frozen 1; have f2 := (hH.rd).frozen 2; have f3 := (hH.rd).frozen 3; have f4 := (hH.rd).frozen 4; have hlt := hH.rd.lt; have o0 := hH.ou.cell 0 _ rfl; have of0 := hH.ou.frozen 0; have olt := hH.ou.lt)
  have hN := Lib.hid ((hH.set_ou 0 (.string (p2 l).1) (hH.ou.sett 0 _ (by simp) rfl)).set_rd rfl (.slice va n vc) (.int .i64 (j4 : Nat)) (.int .i64 (p2 l).2.p.1) (.int .i64 (p2 l).2.p.2) (.int .i64 (p2 l).2.e))
  have Q4 := Lib.hid hq
  clear HC d0 d1 d2 d3 d4 e0 e1 e2 e3 e4 f0 f1 f2 f3 f4 hlt hH hq hb H3 Q3 o0 of0 olt
  generalize ((((((W4c.setCell ⟨OB, 0, none⟩ (.string (p2 l).1)).setCell ⟨RB, 0, none⟩ (.slice va n vc)).setCell ⟨RB, 1, none⟩ (.int .i64 (j4 : Nat))).setCell ⟨RB, 2, none⟩ (.int .i64 (p2 l).2.p.1)).setCell ⟨RB, 3, none⟩ (.int .i64 (p2 l).2.p.2)).setCell ⟨RB, 4, none⟩ (.int .i64 (p2 l).2.e)) = W4 at *
  have H4 := hN
  clear hN
  have HC : Calls Try.prog 70 #[.agg #[.slice va n vc, .int .i64 (j4 : Nat), .int .i64 (p2 l).2.p.1, .int .i64 (p2 l).2.p.2, .int .i64 (p2 l).2.e], .string ⟨#[40]⟩] W4 fun y w' => ∃ i' : Nat, y = .returned (.agg #[.slice va n vc, .int .i64 (i' : Nat), .int .i64 (wordR (p2 l).2 kOpen).2.p.1, .int .i64 (wordR (p2 l).2 kOpen).2.p.2, .int .i64 (wordR (p2 l).2 kOpen).2.e]) ∧ RQ l i' ((wordR (p2 l).2 kOpen).2) ∧ Below W4.heap.size W4 w' := rwordQ l va n vc j4 (p2 l).2 ⟨#[40]⟩ W4 HN.out hn6 (HT1.out.below H4.out.b) Q4.out
  have d0 := (H4.out.rd).cell 0 _ rfl
  have d1 := (H4.out.rd).cell 1 _ rfl
  have d2 := (H4.out.rd).cell 2 _ rfl
  have d3 := (H4.out.rd).cell 3 _ rfl
  have d4 := (H4.out.rd).cell 4 _ rfl
  go_upto_region 9 with (go_at_call 70; (with_reducible refine HC.mono ?_); rintro y W5c ⟨j5, rfl, hq, hb⟩; have hH := H4.out.below hb; have e0 := (hH.rd).cell 0 _ rfl; have e1 := (hH.rd).cell 1 _ rfl; have e2 := (hH.rd).cell 2 _ rfl; have e3 := (hH.rd).cell 3 _ rfl; have e4 := (hH.rd).cell 4 _ rfl; have f0 := (hH.rd).frozen 0; have f1 := (hH.rd).frozen 1; have f2 := (hH.rd).frozen 2; have f3 := (hH.rd).frozen 3; have f4 := (hH.rd).frozen 4; have hlt := hH.rd.lt)
  have hN := Lib.hid ((hH).set_rd rfl (.slice va n vc) (.int .i64 (j5 : Nat)) (.int .i64 (wordR (p2 l).2 kOpen).2.p.1) (.int .i64 (wordR (p2 l).2 kOpen).2.p.2) (.int .i64 (wordR (p2 l).2 kOpen).2.e))
  have Q5 := Lib.hid hq
  clear HC d0 d1 d2 d3 d4 e0 e1 e2 e3 e4 f0 f1 f2 f3 f4 hlt hH hq hb H4 Q4
  generalize (((((W5c.setCell ⟨RB, 0, none⟩ (.slice va n vc)).setCell ⟨RB, 1, none⟩ (.int .i64 (j5 : Nat))).setCell ⟨RB, 2, none⟩ (.int .i64 (wordR (p2 l).2 kOpen).2.p.1)).setCell ⟨RB, 3, none⟩ (.int .i64 (wordR (p2 l).2 kOpen).2.p.2)).setCell ⟨RB, 4, none⟩ (.int .i64 (wordR (p2 l).2 kOpen).2.e)) = W5 at *
  have H5 := hN
  clear hN
  go_upto_region 10 with fail
  have hlen5 : (wordR (p2 l).2 kOpen).2.toks.length ≤ 65537 := by have h1 := Q5.out.len; have := HSH.out.1; omega
  have HI5 := Lib.hid (show LI 28 W5 RB OB #[.slice va n vc, .int .i64 (j5 : Nat), .int .i64 (wordR (p2 l).2 kOpen).2.p.1, .int .i64 (wordR (p2 l).2 kOpen).2.p.2, .int .i64 (wordR (p2 l).2 kOpen).2.e] #[.string (p2 l).1, .slice none 0 0, .int .i64 0, .slice none 0 0] 78 2 (.slice none 0 0) ([] : List Cl).length (flatC []) W5 from ⟨H5.out.rd, H5.out.ou, World.ownsRow_nil _ _ _ _, Frm.refl _ _, H5.out.rd.lt, H5.out.ou.lt, hRO⟩)
  go_loopw [10] (fun i wr => L1 l W5 RB OB va n vc (p2 l).1 i wr) (fun i wr => mB n RB i wr)
  case atStart => exact ⟨true, (wordR (p2 l).2 kOpen).2, [], j5, .slice none 0 0, rfl, Q5, HI5, Lib.hid (by rw [if_pos rfl]; rfl), Lib.hid (fun _ => by simpa using hlen5)⟩
  case round =>
    obtain ⟨b, r, cl, j, v, rfl, QR, HI, HF, HBD⟩ := hrel
    clear Q5 HI5 hlen5
    cases b
    · skip
      have hF := HF.out
      rw [if_neg (by simp)] at hF
      have hr3 : r = (p3 l).1 := by rw [← (q3_rel l).1, ← hF]
      have HCL := Lib.hid (show cl = (q3 l).2 by rw [← hF])
      subst hr3
      have HQ6 := Lib.hid (H5.out.cols rfl HI.out)
      clear hF HF HBD HI
      obtain ⟨W15, rfl⟩ : ∃ x, x = wr := ⟨wr, rfl⟩
      have HC : Calls Try.prog 70 #[.agg #[.slice va n vc, .int .i64 (j : Nat), .int .i64 (p3 l).1.p.1, .int .i64 (p3 l).1.p.2, .int .i64 (p3 l).1.e], .string ⟨#[107, 101, 121]⟩] W15 fun y w' => ∃ i' : Nat, y = .returned (.agg #[.slice va n vc, .int .i64 (i' : Nat), .int .i64 (p4 l).p.1, .int .i64 (p4 l).p.2, .int .i64 (p4 l).e]) ∧ RQ l i' ((p4 l)) ∧ Below W15.heap.size W15 w' := rwordQ l va n vc j (p3 l).1 ⟨#[107, 101, 121]⟩ W15 HN.out hn6 (HT1.out.below HQ6.out.b) QR.out
      have d0 := (HQ6.out.rd).cell 0 _ rfl
      have d1 := (HQ6.out.rd).cell 1 _ rfl
      have d2 := (HQ6.out.rd).cell 2 _ rfl
      have d3 := (HQ6.out.rd).cell 3 _ rfl
      have d4 := (HQ6.out.rd).cell 4 _ rfl
      go_upto_region 22 with (go_at_call 70; (with_reducible refine HC.mono ?_); rintro y W16c ⟨j16, rfl, hq, hb⟩; have hH := HQ6.out.below hb; have e0 := (hH.rd).cell 0 _ rfl; have e1 := (hH.rd).cell 1 _ rfl; have e2 := (hH.rd).cell 2 _ rfl; have e3 := (hH.rd).cell 3 _ rfl; have e4 := (hH.rd).cell 4 _ rfl; have f0 := (hH.rd).frozen 0; have f1 := (hH.rd).frozen 1; have f2 := (hH.rd).frozen 2; have f3 := (hH.rd).frozen 3; have f4 := (hH.rd).frozen 4; have hlt := hH.rd.lt)
      have hN := Lib.hid ((hH).set_rd rfl (.slice va n vc) (.int .i64 (j16 : Nat)) (.int .i64 (p4 l).p.1) (.int .i64 (p4 l).p.2) (.int .i64 (p4 l).e))
      have Q16 := Lib.hid hq
      clear HC d0 d1 d2 d3 d4 e0 e1 e2 e3 e4 f0 f1 f2 f3 f4 hlt hH hq hb HQ6 QR
      generalize (((((W16c.setCell ⟨RB, 0, none⟩ (.slice va n vc)).setCell ⟨RB, 1, none⟩ (.int .i64 (j16 : Nat))).setCell ⟨RB, 2, none⟩ (.int .i64 (p4 l).p.1)).setCell ⟨RB, 3, none⟩ (.int .i64 (p4 l).p.2)).setCell ⟨RB, 4, none⟩ (.int .i64 (p4 l).e)) = W16 at *
      have HQ7 := hN
      clear hN
      have HC : Calls Try.prog 72 #[.agg #[.slice va n vc, .int .i64 (j16 : Nat), .int .i64 (p4 l).p.1, .int .i64 (p4 l).p.2, .int .i64 (p4 l).e]] W16 fun y w' => ∃ i' : Nat, y = .returned (.tuple #[.string (p5 l).1.1, .agg #[.slice va n vc, .int .i64 (i' : Nat), .int .i64 (p5 l).2.p.1, .int .i64 (p5 l).2.p.2, .int .i64 (p5 l).2.e]]) ∧ RQ l i' ((p5 l).2) ∧ (((p5 l).2).e = 0 → LstT l i' ((p5 l).1)) ∧ Below W16.heap.size W16 w' := rnextQ l va n vc j16 (p4 l) W16 HN.out hn6 (HT1.out.below HQ7.out.b) Q16.out
      have d0 := (HQ7.out.rd).cell 0 _ rfl
      have d1 := (HQ7.out.rd).cell 1 _ rfl
      have d2 := (HQ7.out.rd).cell 2 _ rfl
      have d3 := (HQ7.out.rd).cell 3 _ rfl
      have d4 := (HQ7.out.rd).cell 4 _ rfl
      go_upto_region 23 with (go_at_call 72; (with_reducible refine HC.mono ?_); rintro y W17c ⟨j17, rfl, hq, hl, hb⟩; have hH := HQ7.out.below hb; have e0 := (hH.rd).cell 0 _ rfl; have e1 := (hH.rd).cell 1 _ rfl; have e2 := (hH.rd).cell 2 _ rfl; have e3 := (hH.rd).cell 3 _ rfl; have e4 := (hH.rd).cell 4 _ rfl; have f0 := (hH.rd).frozen 0; have f1 := (hH.rd).frozen 1; have f2 := (hH.rd).frozen 2; have f3 := (hH.rd).frozen 3; have f4 := (hH.rd).frozen 4; have hlt := hH.rd.lt)
      have hN := Lib.hid ((hH).set_rd rfl (.slice va n vc) (.int .i64 (j17 : Nat)) (.int .i64 (p5 l).2.p.1) (.int .i64 (p5 l).2.p.2) (.int .i64 (p5 l).2.e))
      have Q17 := Lib.hid hq
      have HLs := Lib.hid hl
      clear HC d0 d1 d2 d3 d4 e0 e1 e2 e3 e4 f0 f1 f2 f3 f4 hlt hH hq hb hl HQ7 Q16
      generalize (((((W17c.setCell ⟨RB, 0, none⟩ (.slice va n vc)).setCell ⟨RB, 1, none⟩ (.int .i64 (j17 : Nat))).setCell ⟨RB, 2, none⟩ (.int .i64 (p5 l).2.p.1)).setCell ⟨RB, 3, none⟩ (.int .i64 (p5 l).2.p.2)).setCell ⟨RB, 4, none⟩ (.int .i64 (p5 l).2.e)) = W17 at *
      have HQ8 := hN
      clear hN
      have hsz5 : (p5 l).1.1.size < 4294967281 := by
        rcases nextR_tok (p4 l) with h | h
        · change (p5 l).1 = tok0 at h
          rw [h]; decide
        · change (p5 l).1 ∈ (p4 l).toks at h
          have h1 : (p4 l).toks <:+ l := (wordR_sfx _ _).trans ((lstR_sfx _ colIt_sfx _).trans ((nameR_sfx _).trans (wordR_sfx ⟨l, (0, 0), 0⟩ _)))
          have := HSH.out.2 _ (h1.subset h)
          omega
      have HNB := fun W => Lx.rnumber_any (p5 l).1.1 1 8 (p6 l).1 (p6 l).2 W hsz5 rfl
      clear hsz5
      go_upto_if 94 with (go_at_call 76; (with_reducible refine (HNB _).mono ?_); rintro e w18 ⟨rfl, rfl⟩)
      clear HNB
      go_cut [] from 94 (fun wc => Hid (QI w w1 N RB OB RB #[.slice va n vc, .int .i64 (j17 : Nat), .int .i64 (p7 l).p.1, .int .i64 (p7 l).p.2, .int .i64 (p7 l).e] (p2 l).1 v 0 (.slice none 0 0) cl [] wc))
      case first =>
        by_cases hf : (p6 l).2 = 0
        · skip
          have h7 := Lib.hid (show (p7 l) = (p5 l).2 by unfold p7; rw [if_pos hf])
          have hf2 : ((p6 l).2 != 0) = false := by simp [hf]
          clear hf
          go_wp2
          go_meet
          case rel => exact Lib.hid (by rw [h7.out]; exact HQ8.out)
        · skip
          have h7 := Lib.hid (show (p7 l) = failR (p5 l).2 (p5 l).1 (p6 l).2 by unfold p7; rw [if_neg hf])
          have hf2 : ((p6 l).2 != 0) = true := by simpa using hf
          clear hf
          have HC : Calls Try.prog 74 #[.agg #[.slice va n vc, .int .i64 (j17 : Nat), .int .i64 (p5 l).2.p.1, .int .i64 (p5 l).2.p.2, .int .i64 (p5 l).2.e], .int .i64 (p6 l).2] W17 fun y w' => y = .returned (.agg #[.slice va n vc, .int .i64 (j17 : Nat), .int .i64 (failR (p5 l).2 (p5 l).1 (p6 l).2).p.1, .int .i64 (failR (p5 l).2 (p5 l).1 (p6 l).2).p.2, .int .i64 (failR (p5 l).2 (p5 l).1 (p6 l).2).e]) ∧ RQ l j17 ((failR (p5 l).2 (p5 l).1 (p6 l).2)) ∧ Below W17.heap.size W17 w' := rfailQ' l va n vc j17 (p5 l).2 (p5 l).1 (p6 l).2 W17 HN.out hn6 (HT1.out.below HQ8.out.b) Q17.out HLs.out
          have d0 := (HQ8.out.rd).cell 0 _ rfl
          have d1 := (HQ8.out.rd).cell 1 _ rfl
          have d2 := (HQ8.out.rd).cell 2 _ rfl
          have d3 := (HQ8.out.rd).cell 3 _ rfl
          have d4 := (HQ8.out.rd).cell 4 _ rfl
          go_wp2_with (go_at_call 74; (with_reducible refine HC.mono ?_); rintro y W18c ⟨rfl, hq, hb⟩; have hH := HQ8.out.below hb; have e0 := (hH.rd).cell 0 _ rfl; have e1 := (hH.rd).cell 1 _ rfl; have e2 := (hH.rd).cell 2 _ rfl; have e3 := (hH.rd).cell 3 _ rfl; have e4 := (hH.rd).cell 4 _ rfl; have f0 := (hH.rd).frozen 0; have f1 := (hH.rd).frozen 1; have f2 := (hH.rd).frozen 2; have f3 := (hH.rd).frozen 3; have f4 := (hH.rd).frozen 4; have hlt := hH.rd.lt)
          have hN := Lib.hid ((hH).set_rd rfl (.slice va n vc) (.int .i64 (j17 : Nat)) (.int .i64 (failR (p5 l).2 (p5 l).1 (p6 l).2).p.1) (.int .i64 (failR (p5 l).2 (p5 l).1 (p6 l).2).p.2) (.int .i64 (failR (p5 l).2 (p5 l).1 (p6 l).2).e))
          have Q18a := Lib.hid hq
          clear HC d0 d1 d2 d3 d4 e0 e1 e2 e3 e4 f0 f1 f2 f3 f4 hlt hH hq hb HQ8 Q17 HLs hf2
          generalize (((((W18c.setCell ⟨RB, 0, none⟩ (.slice va n vc)).setCell ⟨RB, 1, none⟩ (.int .i64 (j17 : Nat))).setCell ⟨RB, 2, none⟩ (.int .i64 (failR (p5 l).2 (p5 l).1 (p6 l).2).p.1)).setCell ⟨RB, 3, none⟩ (.int .i64 (failR (p5 l).2 (p5 l).1 (p6 l).2).p.2)).setCell ⟨RB, 4, none⟩ (.int .i64 (failR (p5 l).2 (p5 l).1 (p6 l).2).e)) = W18 at *
          have HQ9a := hN
          clear hN
          go_meet
          case rel => exact Lib.hid (by rw [h7.out]; exact HQ9a.out)
      case rest =>
        have HQ9 := hcut
        have Q18 : Hid (RQ l j17 (p7 l)) := Lib.hid (by
          unfold p7
          split
          · exact Q17.out
          · exact ⟨Q17.out.1, by rw [failR_toks]; exact Q17.out.2⟩)
        clear HQ8 Q17 HLs hcut
        have o2 := HQ9.out.ou.cell 2 _ rfl
        have of2 := HQ9.out.ou.frozen 2
        have olt := HQ9.out.ou.lt
        have HQ10 := Lib.hid (HQ9.out.set_ou 2 (.int .i64 (p6 l).1) (HQ9.out.ou.sett 2 _ (by simp) rfl))
        go_upto_region 27 with fail
        clear o2 of2 olt HQ9
        generalize wc.setCell ⟨OB, 2, none⟩ (.int .i64 (p6 l).1) = W20 at *
        have hlen7 : (p7 l).toks.length ≤ 65537 := by have h1 := Q18.out.len; have := HSH.out.1; omega
        go_loopw [10] (fun _ wr => L2 l w w1 N RB OB va n vc (p2 l).1 v (p6 l).1 cl wr) (fun _ wr => mE n RB wr)
        case atStart => exact ⟨RB, p7 l, [], j17, .slice none 0 0, Q18, HQ10, Lib.hid rfl, Lib.hid (fun _ => by simpa using hlen7)⟩
        case round =>
          obtain ⟨K, r, fr, j, vf, QR, HQ, HF, HBD⟩ := hrel
          clear Q18 HQ10 hlen7
          obtain ⟨W21, rfl⟩ : ∃ x, x = wr := ⟨wr, rfl⟩
          have r0 := HQ.out.rd.cell 0 _ rfl
          have r1 := HQ.out.rd.cell 1 _ rfl
          have r2 := HQ.out.rd.cell 2 _ rfl
          have r3 := HQ.out.rd.cell 3 _ rfl
          have r4 := HQ.out.rd.cell 4 _ rfl
          by_cases he : r.e = 0
          · skip
            rw [he] at r4
            have HE1 := Lib.hid he
            clear he
            by_cases hjn : j < n
            · skip
              have hij : (j : Int) < (n : Int) := by omega
              have HTK := Lib.hid (show r.toks ≠ [] from fun e => by have h1 := QR.out.len; rw [e, ← HN.out] at h1; simp at h1; omega)
              have HFG := Lib.hid ((rfrR_go (r, fr) ⟨HE1.out, HTK.out⟩).symm.trans HF.out)
              have HBL := Lib.hid (HBD.out HE1.out)
              have hm := Lib.hid (show mE n RB W21 = n + 1 - j by unfold mE; rw [eOf_is HQ.out.rd, if_pos HE1.out, jOf_is HQ.out.rd])
              have HKQ := Lib.hid (HQ.out.re (Nat.le_refl W21.heap.size))
              have hVL := Lib.hid HQ.out.fi.lt
              have hn21 := HQ.out.n
              have HG0 := Lib.hid (Bx.new W21 55 #[.slice none 0 0, .string ⟨#[]⟩])
              have HQ1 := Lib.hid (HKQ.out.below ((Below.refl _ W21).alloc (Nat.le_refl _) (.cells #[.slice none 0 0, .string ⟨#[]⟩] 55)))
              have hsG : W21.heap.size < (W21.alloc (.cells #[.slice none 0 0, .string ⟨#[]⟩] 55)).heap.size := by simp
              go_upto_region 29 with fail
              clear r0 r1 r2 r3 r4 hij hjn HF HBD HKQ
              generalize W21.alloc (.cells #[.slice none 0 0, .string ⟨#[]⟩] 55) = W22 at HG0 HQ1 hsG ⊢
              generalize hgb : W21.heap.size = GB at *
              have HGB := Lib.hid hgb
              clear hgb
              have hRG : ¬ RB = GB := by omega
              have hGR : ¬ GB = RB := fun e => hRG e.symm
              have hNG : N ≤ GB := by omega
              have hGO : ¬ GB = OB := by omega
              clear hn21
              have HC : Calls Try.prog 70 #[.agg #[.slice va n vc, .int .i64 (j : Nat), .int .i64 r.p.1, .int .i64 r.p.2, .int .i64 r.e], .string ⟨#[102, 111, 114, 101, 105, 103, 110]⟩] W22 fun y w' => ∃ i' : Nat, y = .returned (.agg #[.slice va n vc, .int .i64 (i' : Nat), .int .i64 (wordR r kForeign).2.p.1, .int .i64 (wordR r kForeign).2.p.2, .int .i64 (wordR r kForeign).2.e]) ∧ RQ l i' ((wordR r kForeign).2) ∧ Below W22.heap.size W22 w' := rwordQ l va n vc j r ⟨#[102, 111, 114, 101, 105, 103, 110]⟩ W22 HN.out hn6 (HT1.out.below HQ1.out.b) QR.out
              have d0 := (HQ1.out.rd).cell 0 _ rfl
              have d1 := (HQ1.out.rd).cell 1 _ rfl
              have d2 := (HQ1.out.rd).cell 2 _ rfl
              have d3 := (HQ1.out.rd).cell 3 _ rfl
              have d4 := (HQ1.out.rd).cell 4 _ rfl
              go_upto_region 30 with (go_at_call 70; (with_reducible refine HC.mono ?_); rintro y W23c ⟨j23, rfl, hq, hb⟩; have hH := HQ1.out.below hb; have e0 := (hH.rd).cell 0 _ rfl; have e1 := (hH.rd).cell 1 _ rfl; have e2 := (hH.rd).cell 2 _ rfl; have e3 := (hH.rd).cell 3 _ rfl; have e4 := (hH.rd).cell 4 _ rfl; have f0 := (hH.rd).frozen 0; have f1 := (hH.rd).frozen 1; have f2 := (hH.rd).frozen 2; have f3 := (hH.rd).frozen 3; have f4 := (hH.rd).frozen 4; have hlt := hH.rd.lt)
              have hN := Lib.hid ((hH).set_rd rfl (.slice va n vc) (.int .i64 (j23 : Nat)) (.int .i64 (wordR r kForeign).2.p.1) (.int .i64 (wordR r kForeign).2.p.2) (.int .i64 (wordR r kForeign).2.e))
              have HG1 := Lib.hid ((HG0.out.below hb).far5 hGR (.slice va n vc) (.int .i64 (j23 : Nat)) (.int .i64 (wordR r kForeign).2.p.1) (.int .i64 (wordR r kForeign).2.p.2) (.int .i64 (wordR r kForeign).2.e))
              have hs23 : GB < W23c.heap.size := (HG0.out.below hb).lt
              have Q23 := Lib.hid hq
              clear HC d0 d1 d2 d3 d4 e0 e1 e2 e3 e4 f0 f1 f2 f3 f4 hlt hH hq hb HQ1 HG0
              generalize (((((W23c.setCell ⟨RB, 0, none⟩ (.slice va n vc)).setCell ⟨RB, 1, none⟩ (.int .i64 (j23 : Nat))).setCell ⟨RB, 2, none⟩ (.int .i64 (wordR r kForeign).2.p.1)).setCell ⟨RB, 3, none⟩ (.int .i64 (wordR r kForeign).2.p.2)).setCell ⟨RB, 4, none⟩ (.int .i64 (wordR r kForeign).2.e)) = W23 at *
              have HQ2 := hN
              clear hN
              have HC : Calls Try.prog 70 #[.agg #[.slice va n vc, .int .i64 (j23 : Nat), .int .i64 (wordR r kForeign).2.p.1, .int .i64 (wordR r kForeign).2.p.2, .int .i64 (wordR r kForeign).2.e], .string ⟨#[40]⟩] W23 fun y w' => ∃ i' : Nat, y = .returned (.agg #[.slice va n vc, .int .i64 (i' : Nat), .int .i64 (wordR (wordR r kForeign).2 kOpen).2.p.1, .int .i64 (wordR (wordR r kForeign).2 kOpen).2.p.2, .int .i64 (wordR (wordR r kForeign).2 kOpen).2.e]) ∧ RQ l i' ((wordR (wordR r kForeign).2 kOpen).2) ∧ Below W23.heap.size W23 w' := rwordQ l va n vc j23 (wordR r kForeign).2 ⟨#[40]⟩ W23 HN.out hn6 (HT1.out.below HQ2.out.b) Q23.out
              have d0 := (HQ2.out.rd).cell 0 _ rfl
              have d1 := (HQ2.out.rd).cell 1 _ rfl
              have d2 := (HQ2.out.rd).cell 2 _ rfl
              have d3 := (HQ2.out.rd).cell 3 _ rfl
              have d4 := (HQ2.out.rd).cell 4 _ rfl
              go_upto_region 31 with (go_at_call 70; (with_reducible refine HC.mono ?_); rintro y W24c ⟨j24, rfl, hq, hb⟩; have hH := HQ2.out.below hb; have e0 := (hH.rd).cell 0 _ rfl; have e1 := (hH.rd).cell 1 _ rfl; have e2 := (hH.rd).cell 2 _ rfl; have e3 := (hH.rd).cell 3 _ rfl; have e4 := (hH.rd).cell 4 _ rfl; have f0 := (hH.rd).frozen 0; have f1 := (hH.rd).frozen 1; have f2 := (hH.rd).frozen 2; have f3 := (hH.rd).frozen 3; have f4 := (hH.rd).frozen 4; have hlt := hH.rd.lt)
              have hN := Lib.hid ((hH).set_rd rfl (.slice va n vc) (.int .i64 (j24 : Nat)) (.int .i64 (wordR (wordR r kForeign).2 kOpen).2.p.1) (.int .i64 (wordR (wordR r kForeign).2 kOpen).2.p.2) (.int .i64 (wordR (wordR r kForeign).2 kOpen).2.e))
              have HG2 := Lib.hid ((HG1.out.below hb).far5 hGR (.slice va n vc) (.int .i64 (j24 : Nat)) (.int .i64 (wordR (wordR r kForeign).2 kOpen).2.p.1) (.int .i64 (wordR (wordR r kForeign).2 kOpen).2.p.2) (.int .i64 (wordR (wordR r kForeign).2 kOpen).2.e))
              have Q24 := Lib.hid hq
              clear HC d0 d1 d2 d3 d4 e0 e1 e2 e3 e4 f0 f1 f2 f3 f4 hlt hH hq hb HQ2 Q23 HG1 hs23
              generalize (((((W24c.setCell ⟨RB, 0, none⟩ (.slice va n vc)).setCell ⟨RB, 1, none⟩ (.int .i64 (j24 : Nat))).setCell ⟨RB, 2, none⟩ (.int .i64 (wordR (wordR r kForeign).2 kOpen).2.p.1)).setCell ⟨RB, 3, none⟩ (.int .i64 (wordR (wordR r kForeign).2 kOpen).2.p.2)).setCell ⟨RB, 4, none⟩ (.int .i64 (wordR (wordR r kForeign).2 kOpen).2.e)) = W24 at *
              have HQ3 := hN
              clear hN
              go_upto_region 32 with fail
              have hlen5 : (wordR (wordR r kForeign).2 kOpen).2.toks.length ≤ 65537 := by have h1 := Q24.out.len; have := HSH.out.1; omega
              have HI5 := Lib.hid (show LI 55 W24 RB GB #[.slice va n vc, .int .i64 (j24 : Nat), .int .i64 (wordR (wordR r kForeign).2 kOpen).2.p.1, .int .i64 (wordR (wordR r kForeign).2 kOpen).2.p.2, .int .i64 (wordR (wordR r kForeign).2 kOpen).2.e] #[.slice none 0 0, .string ⟨#[]⟩] 9 1 (.slice none 0 0) ([] : List ByteArray).length (([] : List ByteArray).map .string) W24 from ⟨HQ3.out.rd, HG2.out, World.ownsRow_nil _ _ _ _, Frm.refl _ _, HQ3.out.rd.lt, HG2.out.lt, hRG⟩)
              go_loopw [10] (fun i wr => L3 l r W24 RB GB va n vc i wr) (fun i wr => mB n RB i wr)
              case atStart => exact ⟨true, (wordR (wordR r kForeign).2 kOpen).2, [], j24, .slice none 0 0, rfl, Q24, HI5, Lib.hid (by rw [if_pos rfl]; rfl), Lib.hid (fun _ => by simpa using hlen5)⟩
              case round =>
                obtain ⟨b, rq, gl, jq, vq, rfl, QQ, HI, HFq, HBq⟩ := hrel
                clear Q24 HI5 hlen5 HG2
                obtain ⟨W25, rfl⟩ : ∃ x, x = wr := ⟨wr, rfl⟩
                have hGw : w1.heap.size ≤ GB := by have := HNN.out; omega
                cases b
                · skip
                  have hF := HFq.out
                  rw [if_neg (by simp)] at hF
                  have hr3 : rq = (rfrQ r).1 := by rw [← hF]
                  have hg3 : gl = (rfrQ r).2 := by rw [← hF]
                  clear hF HFq HBq
                  subst hr3 hg3
                  have HQ4 := Lib.hid (HQ3.out.keep HI.out.f HI.out.rd)
                  have hVQ := Lib.hid (show vq.ownBlock ≠ some GB ∧ (vq.ownBlock = none ∨ vq.ownBlock ≠ vf.ownBlock) from ⟨fun e => by have := (HI.out.own.lt _ e).1; have := HI.out.n; omega, by
                    by_cases e : vq.ownBlock = none
                    · exact .inl e
                    · refine .inr fun e2 => ?_
                      obtain ⟨g, hg⟩ := Option.ne_none_iff_exists'.1 e
                      have h1 := (HI.out.own.lt g hg).1
                      have h2 := (hVL.out g (by rw [← e2]; exact hg)).2
                      have h3 := HI.out.n
                      have h4 := HGB.out
                      omega⟩)
                  have HC : Calls Try.prog 71 #[.agg #[.slice va n vc, .int .i64 (jq : Nat), .int .i64 (rfrQ r).1.p.1, .int .i64 (rfrQ r).1.p.2, .int .i64 (rfrQ r).1.e]] W25 fun y w' => ∃ i' : Nat, y = .returned (.tuple #[.string (nameR (rfrQ r).1).1, .agg #[.slice va n vc, .int .i64 (i' : Nat), .int .i64 (nameR (rfrQ r).1).2.p.1, .int .i64 (nameR (rfrQ r).1).2.p.2, .int .i64 (nameR (rfrQ r).1).2.e]]) ∧ RQ l i' ((nameR (rfrQ r).1).2) ∧ Below W25.heap.size W25 w' := rnameQ l va n vc jq (rfrQ r).1 W25 HN.out hn6 (HT1.out.below HQ4.out.b) QQ.out
                  have d0 := (HQ4.out.rd).cell 0 _ rfl
                  have d1 := (HQ4.out.rd).cell 1 _ rfl
                  have d2 := (HQ4.out.rd).cell 2 _ rfl
                  have d3 := (HQ4.out.rd).cell 3 _ rfl
                  have d4 := (HQ4.out.rd).cell 4 _ rfl
                  go_upto_region 38 with (go_at_call 71; (with_reducible refine HC.mono ?_); rintro y W30c ⟨j30, rfl, hq, hb⟩; have hH := HQ4.out.below hb; have e0 := (hH.rd).cell 0 _ rfl; have e1 := (hH.rd).cell 1 _ rfl; have e2 := (hH.rd).cell 2 _ rfl; have e3 := (hH.rd).cell 3 _ rfl; have e4 := (hH.rd).cell 4 _ rfl; have f0 := (hH.rd).frozen 0; have f1 := (hH.rd).frozen 1; have f2 := (hH.rd).frozen 2; have f3 := (hH.rd).frozen 3; have f4 := (hH.rd).frozen 4; have hlt := hH.rd.lt; have hI := HI.out.below hb; have g0 := hI.pb.cell 1 _ rfl; have gf0 := hI.pb.frozen 1; have glt := hI.pb.lt)
                  have hN := Lib.hid ((hH.setK hNG 1 (.string (nameR (rfrQ r).1).1)).set_rd rfl (.slice va n vc) (.int .i64 (j30 : Nat)) (.int .i64 (nameR (rfrQ r).1).2.p.1) (.int .i64 (nameR (rfrQ r).1).2.p.2) (.int .i64 (nameR (rfrQ r).1).2.e))
                  have HJ5 := Lib.hid ((hI.set_pb 1 (.string (nameR (rfrQ r).1).1) (by simp) rfl).set_rd rfl (.slice va n vc) (.int .i64 (j30 : Nat)) (.int .i64 (nameR (rfrQ r).1).2.p.1) (.int .i64 (nameR (rfrQ r).1).2.p.2) (.int .i64 (nameR (rfrQ r).1).2.e))
                  clear hI
                  have Q30 := Lib.hid hq
                  clear HC d0 d1 d2 d3 d4 e0 e1 e2 e3 e4 f0 f1 f2 f3 f4 hlt hH hq hb HQ4 QQ g0 gf0 glt HI
                  generalize ((((((W30c.setCell ⟨GB, 1, none⟩ (.string (nameR (rfrQ r).1).1)).setCell ⟨RB, 0, none⟩ (.slice va n vc)).setCell ⟨RB, 1, none⟩ (.int .i64 (j30 : Nat))).setCell ⟨RB, 2, none⟩ (.int .i64 (nameR (rfrQ r).1).2.p.1)).setCell ⟨RB, 3, none⟩ (.int .i64 (nameR (rfrQ r).1).2.p.2)).setCell ⟨RB, 4, none⟩ (.int .i64 (nameR (rfrQ r).1).2.e)) = W30 at *
                  have HQ5 := hN
                  clear hN
                  have hN15 := HQ5.out.n.2.2.2.1
                  obtain ⟨ls, l1, l2, l3, _, l5⟩ := HQ5.out.fi
                  have hll : ls.length = fr.length := by rw [← l1, List.length_map]
                  have c15 := HJ5.out.pb.cell 0 _ rfl
                  have d15 := HJ5.out.pb.cell 1 _ rfl
                  have m15 := HJ5.out.pb.lt
                  have c95 := HQ5.out.ou.cell 3 _ rfl
                  have m95 := HQ5.out.ou.lt
                  have hv13 := own_one HJ5.out.own
                  have HVB := Lib.hid (show some OB ≠ vf.ownBlock from fun e => by have := (l2.lt _ e.symm).1; have := HQ5.out.n; omega)
                  obtain ⟨ii, hi, hz0', hz1', hz2'⟩ := info_parts infoF
                  have hbd := HBL.out
                  have HLS := Lib.hid (And.intro l1 (And.intro l2 (And.intro l3 l5)))
                  have HO15 := Lib.hid (own_le HJ5.out.own (show N ≤ W24.heap.size by have := HQ3.out.n; omega))
                  clear l1 l2 l3 l5
                  go_wp2_with (at_builtin; go_must (refine wpList_app3 (wX := W30) N (by omega) rfl (.tmp 140) (.tmp 142) 26 rfl 55 Try.underlying26 hi hz0' hz1' hz2' rfl (by decide) vf ls.length (cellsF ls) rfl [vq, .string (nameR (rfrQ r).1).1] 55 HLS.out.2.1 rfl (by simp) rfl (by intro u hu; simp at hu; rcases hu with rfl | rfl; exact hv13; rfl) (by unfold maxLen; omega) (by omega) ?_); intro g1 cap1 w16 hown16 hgr hG; have b16 := HQ5.out.ou.far hgr HVB.out; have n1 := b16.cell 3 _ rfl; have n2 := b16.frozen 3; have n3 := b16.lt)
                  have hrel9 : L2 l w w1 N RB OB va n vc (p2 l).1 v (p6 l).1 cl (w16.setCell ⟨OB, 3, none⟩ (.slice (some ⟨g1, 0, none⟩) (fr.length + 1) cap1)) ∧ mE n RB (w16.setCell ⟨OB, 3, none⟩ (.slice (some ⟨g1, 0, none⟩) (fr.length + 1) cap1)) < mE n RB W21 := by
                    have P17 := HQ5.out.app m15 hNG (f := ⟨(rfrQ r).2, (nameR (rfrQ r).1).1⟩) HO15.out hVQ.out.1 hVQ.out.2 ls HLS.out.1 HLS.out.2.2.1 HLS.out.2.2.2 hown16 hgr hG
                    rw [hll] at P17
                    have hq1 := QR.out.1
                    have hq2 := QR.out.len
                    have hq3 := Q30.out.1
                    have hq4 := Q30.out.len
                    have hln := HN.out
                    refine ⟨⟨GB, (rfrS (r, fr)).1, (rfrS (r, fr)).2, j30, _, Q30, Lib.hid P17, Lib.hid HFG.out, Lib.hid fun h5 => ?_⟩, ?_⟩
                    · have := (rfrS_dec (r, fr) h5).2
                      have e : (rfrS (r, fr)).2.length = fr.length + 1 := by unfold rfrS; simp
                      rw [e]
                      dsimp only at this
                      omega
                    · rw [hm.out]
                      unfold mE
                      rw [eOf_is P17.rd, jOf_is P17.rd]
                      split
                      · rename_i h5
                        have := (rfrS_dec (r, fr) h5).2
                        dsimp only at this
                        have e : (rfrS (r, fr)).1 = (nameR (rfrQ r).1).2 := rfl
                        rw [e] at this
                        omega
                      · omega
                  clear c15 d15 m15 c95 m95 b16 n1 n2 n3 HQ5 HJ5
                  generalize w16.setCell ⟨OB, 3, none⟩ (.slice (some ⟨g1, 0, none⟩) (fr.length + 1) cap1) = W31 at hrel9 ⊢
                  go_roundw
                  case rel => exact hrel9.1
                  case measure => exact hrel9.2
                · skip
                  have HF1 := Lib.hid (show rlR frnIt (rq.toks.length + 1) (rq, gl) = rfrQ r by have := HFq.out; rwa [if_pos rfl] at this)
                  have HBL2 := Lib.hid (HBq.out rfl)
                  have hm2 := Lib.hid (show mB n RB (.bool true) W25 = n + 1 - jq by show n + 1 - jOf W25 RB = _; rw [jOf_is HI.out.rd])
                  clear HFq HBq
                  have HC : Calls Try.prog 71 #[.agg #[.slice va n vc, .int .i64 (jq : Nat), .int .i64 rq.p.1, .int .i64 rq.p.2, .int .i64 rq.e]] W25 fun y w' => ∃ i' : Nat, y = .returned (.tuple #[.string (nameR rq).1, .agg #[.slice va n vc, .int .i64 (i' : Nat), .int .i64 (nameR rq).2.p.1, .int .i64 (nameR rq).2.p.2, .int .i64 (nameR rq).2.e]]) ∧ RQ l i' ((nameR rq).2) ∧ Below W25.heap.size W25 w' := rnameQ l va n vc jq rq W25 HN.out hn6 (ts_li HT1.out HQ3.out HI.out hGw) QQ.out
                  have d0 := (HI.out.rd).cell 0 _ rfl
                  have d1 := (HI.out.rd).cell 1 _ rfl
                  have d2 := (HI.out.rd).cell 2 _ rfl
                  have d3 := (HI.out.rd).cell 3 _ rfl
                  have d4 := (HI.out.rd).cell 4 _ rfl
                  go_upto_region 34 with (go_at_call 71; (with_reducible refine HC.mono ?_); rintro y W26c ⟨j26, rfl, hq, hb⟩; have hH := HI.out.below hb; have e0 := (hH.rd).cell 0 _ rfl; have e1 := (hH.rd).cell 1 _ rfl; have e2 := (hH.rd).cell 2 _ rfl; have e3 := (hH.rd).cell 3 _ rfl; have e4 := (hH.rd).cell 4 _ rfl; have f0 := (hH.rd).frozen 0; have f1 := (hH.rd).frozen 1; have f2 := (hH.rd).frozen 2; have f3 := (hH.rd).frozen 3; have f4 := (hH.rd).frozen 4; have hlt := hH.rd.lt)
                  have hN := Lib.hid (hH.below ((Below.refl _ W26c).alloc (Nat.le_refl _) (.cells #[.slice va n vc, .int .i64 (j26 : Nat), .int .i64 (nameR rq).2.p.1, .int .i64 (nameR rq).2.p.2, .int .i64 (nameR rq).2.e] 108)))
                  have hbq := Bx.new W26c 108 #[.slice va n vc, .int .i64 (j26 : Nat), .int .i64 (nameR rq).2.p.1, .int .i64 (nameR rq).2.p.2, .int .i64 (nameR rq).2.e]
                  have hqs : W26c.heap.size < (W26c.alloc (.cells #[.slice va n vc, .int .i64 (j26 : Nat), .int .i64 (nameR rq).2.p.1, .int .i64 (nameR rq).2.p.2, .int .i64 (nameR rq).2.e] 108)).heap.size := by simp
                  have hQB : ¬ RB = W26c.heap.size := by have := hH.rd.lt; omega
                  have Q26 := Lib.hid hq
                  clear HC d0 d1 d2 d3 d4 e0 e1 e2 e3 e4 f0 f1 f2 f3 f4 hlt hH hq hb HI
                  generalize W26c.alloc (.cells #[.slice va n vc, .int .i64 (j26 : Nat), .int .i64 (nameR rq).2.p.1, .int .i64 (nameR rq).2.p.2, .int .i64 (nameR rq).2.e] 108) = W26 at *
                  have HI1 := hN
                  clear hN
                  generalize W26c.heap.size = QB at hbq hqs hQB ⊢
                  clear hqs
                  have hQR : ¬ QB = RB := fun e => hQB e.symm
                  have d0 := (HI1.out.rd).cell 0 _ rfl
                  have d1 := (HI1.out.rd).cell 1 _ rfl
                  have d2 := (HI1.out.rd).cell 2 _ rfl
                  have d3 := (HI1.out.rd).cell 3 _ rfl
                  have d4 := (HI1.out.rd).cell 4 _ rfl
                  have f0 := (HI1.out.rd).frozen 0
                  have f1 := (HI1.out.rd).frozen 1
                  have f2 := (HI1.out.rd).frozen 2
                  have f3 := (HI1.out.rd).frozen 3
                  have f4 := (HI1.out.rd).frozen 4
                  have q0 := (hbq).cell 0 _ rfl
                  have q1 := (hbq).cell 1 _ rfl
                  have q2 := (hbq).cell 2 _ rfl
                  have q3 := (hbq).cell 3 _ rfl
                  have q4 := (hbq).cell 4 _ rfl
                  have hlt := HI1.out.rd.lt
                  have hN := Lib.hid (HI1.out.set_rd rfl (.slice va n vc) (.int .i64 (j26 : Nat)) (.int .i64 (nameR rq).2.p.1) (.int .i64 (nameR rq).2.p.2) (.int .i64 (nameR rq).2.e))
                  go_upto_region 35 with fail
                  clear hbq HI1 hlt d0 d1 d2 d3 d4 f0 f1 f2 f3 f4 q0 q1 q2 q3 q4
                  generalize (((((W26.setCell ⟨RB, 0, none⟩ (.slice va n vc)).setCell ⟨RB, 1, none⟩ (.int .i64 (j26 : Nat))).setCell ⟨RB, 2, none⟩ (.int .i64 (nameR rq).2.p.1)).setCell ⟨RB, 3, none⟩ (.int .i64 (nameR rq).2.p.2)).setCell ⟨RB, 4, none⟩ (.int .i64 (nameR rq).2.e)) = W27 at *
                  have HI2 := hN
                  clear hN
                  have hit := Lib.hid (show itemR frnIt (rq, gl) = ((wordR (nameR rq).2 kMore).1, ((wordR (nameR rq).2 kMore).2, gl ++ [(nameR rq).1])) from rfl)
                  generalize (nameR rq).2 = rc at HI2 Q26 hit
                  generalize (nameR rq).1 = x1 at hit ⊢
                  have o1 := HI2.out.pb.cell 0 _ rfl
                  have olt := HI2.out.pb.lt
                  have hWl := HI2.out.lt
                  have HOV := Lib.hid (show some GB ≠ vq.ownBlock from fun e => by have := (HI2.out.own.lt _ e.symm).1; have := HI2.out.n; omega)
                  obtain ⟨ii, hi, hz0', hz1', hz2'⟩ := info_parts infoS
                  have hbl := HBL2.out
                  go_upto_region 36 with (at_builtin; go_must (refine wpList_app3 (wX := W27) W24.heap.size hWl rfl (.tmp 123) (.tmp 125) 38 rfl 9 Try.underlying38 hi hz0' hz1' hz2' rfl (by decide) vq gl.length (gl.map .string) rfl [.string x1] 9 HI2.out.own rfl (by simp) rfl (by intro u hu; simp at hu; rcases hu with rfl; rfl) (by unfold maxLen; omega) (by omega) ?_); intro g1 cap1 w8 hown8 hgr hG; have b98 := HI2.out.pb.far hgr HOV.out; have n1 := b98.cell 0 _ rfl; have n2 := b98.frozen 0; have n3 := b98.lt)
                  have HI8 : Hid (LI 55 W24 RB GB #[.slice va n vc, .int .i64 (j26 : Nat), .int .i64 rc.p.1, .int .i64 rc.p.2, .int .i64 rc.e] #[.slice (some ⟨g1, 0, none⟩) (gl.length + 1) cap1, .string ⟨#[]⟩] 9 1 (.slice (some ⟨g1, 0, none⟩) (gl.length + 1) cap1) (gl ++ [x1]).length ((gl ++ [x1]).map .string) (w8.setCell ⟨GB, 0, none⟩ (.slice (some ⟨g1, 0, none⟩) (gl.length + 1) cap1))) := Lib.hid (((HI2.out.app hown8 hgr).set_pb 0 _ (by simp) rfl).cast (by simp) (by simp))
                  clear o1 olt HI2 HOV b98 n1 n2 n3 hown8 hgr hG
                  generalize w8.setCell ⟨GB, 0, none⟩ (.slice (some ⟨g1, 0, none⟩) (gl.length + 1) cap1) = W28 at *
                  have HC : Calls Try.prog 75 #[.agg #[.slice va n vc, .int .i64 (j26 : Nat), .int .i64 rc.p.1, .int .i64 rc.p.2, .int .i64 rc.e]] W28 fun y w' => ∃ i' : Nat, y = .returned (.tuple #[.bool (decide ((wordR rc kMore).1 = ⟨#[44]⟩)), .agg #[.slice va n vc, .int .i64 (i' : Nat), .int .i64 (wordR rc kMore).2.p.1, .int .i64 (wordR rc kMore).2.p.2, .int .i64 (wordR rc kMore).2.e]]) ∧ RQ l i' ((wordR rc kMore).2) ∧ Below W28.heap.size W28 w' := rmoreQ l va n vc j26 rc W28 HN.out hn6 (ts_li HT1.out HQ3.out HI8.out hGw) Q26.out
                  have d0 := (HI8.out.rd).cell 0 _ rfl
                  have d1 := (HI8.out.rd).cell 1 _ rfl
                  have d2 := (HI8.out.rd).cell 2 _ rfl
                  have d3 := (HI8.out.rd).cell 3 _ rfl
                  have d4 := (HI8.out.rd).cell 4 _ rfl
                  go_wp2_with (go_at_call 75; (with_reducible refine HC.mono ?_); rintro y W29c ⟨j29, rfl, hq, hb⟩; have hH := HI8.out.below hb; have e0 := (hH.rd).cell 0 _ rfl; have e1 := (hH.rd).cell 1 _ rfl; have e2 := (hH.rd).cell 2 _ rfl; have e3 := (hH.rd).cell 3 _ rfl; have e4 := (hH.rd).cell 4 _ rfl; have f0 := (hH.rd).frozen 0; have f1 := (hH.rd).frozen 1; have f2 := (hH.rd).frozen 2; have f3 := (hH.rd).frozen 3; have f4 := (hH.rd).frozen 4; have hlt := hH.rd.lt)
                  have hN := Lib.hid ((hH).set_rd rfl (.slice va n vc) (.int .i64 (j29 : Nat)) (.int .i64 (wordR rc kMore).2.p.1) (.int .i64 (wordR rc kMore).2.p.2) (.int .i64 (wordR rc kMore).2.e))
                  have Q29 := Lib.hid hq
                  clear HC d0 d1 d2 d3 d4 e0 e1 e2 e3 e4 f0 f1 f2 f3 f4 hlt hH hq hb HI8 Q26
                  generalize (((((W29c.setCell ⟨RB, 0, none⟩ (.slice va n vc)).setCell ⟨RB, 1, none⟩ (.int .i64 (j29 : Nat))).setCell ⟨RB, 2, none⟩ (.int .i64 (wordR rc kMore).2.p.1)).setCell ⟨RB, 3, none⟩ (.int .i64 (wordR rc kMore).2.p.2)).setCell ⟨RB, 4, none⟩ (.int .i64 (wordR rc kMore).2.e)) = W29 at *
                  have HI9 := hN
                  clear hN
                  have hcm : (itemR frnIt (rq, gl)).1 = (wordR rc kMore).1 := by rw [hit.out]
                  have hi2 : (itemR frnIt (rq, gl)).2 = ((wordR rc kMore).2, gl ++ [x1]) := by rw [hit.out]
                  have hrel9 : L3 l r W24 RB GB va n vc (.bool (decide ((wordR rc kMore).1 = ⟨#[44]⟩))) W29 ∧ mB n RB (.bool (decide ((wordR rc kMore).1 = ⟨#[44]⟩))) W29 < mB n RB (.bool true) W25 := by
                    have hql := QQ.out.1
                    have hln := HN.out
                    by_cases hc : (wordR rc kMore).1 = ⟨#[44]⟩
                    · obtain ⟨k1, k2, k3⟩ := rl_go frnIt frnIt_len (rq, gl) (hcm.trans hc)
                      rw [hi2] at k1 k2 k3
                      dsimp only at k1 k2 k3
                      have hl1 := QQ.out.len
                      have hl2 := Q29.out.len
                      refine ⟨⟨_, _, _, j29, _, rfl, Q29, HI9, Lib.hid ?_, Lib.hid fun _ => ?_⟩, ?_⟩
                      · rw [if_pos (decide_eq_true hc), ← k1]; exact HF1.out
                      · rw [List.length_append]; simp; omega
                      · rw [hm2.out, decide_eq_true hc]
                        show n + 1 - jOf W29 RB < _
                        rw [jOf_is HI9.out.rd]
                        omega
                    · have k1 := rl_end frnIt (rq, gl) (fun h => hc (hcm.symm.trans h))
                      rw [hi2] at k1
                      refine ⟨⟨_, _, _, j29, _, rfl, Q29, HI9, Lib.hid ?_, Lib.hid fun h => absurd (of_decide_eq_true h) hc⟩, ?_⟩
                      · rw [if_neg (by simpa using hc), ← k1]; exact HF1.out
                      · rw [hm2.out, decide_eq_false hc]
                        show 0 < _
                        omega
                  clear HI9 Q29 hcm hi2 hit
                  go_roundw
                  case rel => exact hrel9.1
                  case measure => exact hrel9.2
            · skip
              have hij : ¬ (j : Int) < (n : Int) := by omega
              have htk : r.toks = [] := List.length_eq_zero_iff.1 (by rw [QR.out.len, ← HN.out]; omega)
              have HE := Lib.hid ((rfrR_end (r, fr) (fun h => h.2 htk)).symm.trans HF.out)
              have HE8 : Hid ((q8 l).1.e = 0) := Lib.hid (by rw [← HE.out]; exact HE1.out)
              have HS := Lib.hid (show prsL l = ⟨(p2 l).1, cl, (p6 l).1, fr⟩ by rw [← qprs l HE8.out, ← HE.out, HCL.out])
              have HR1 := Lib.hid (show R = (if vldS ⟨(p2 l).1, cl, (p6 l).1, fr⟩ = false then (sch0, (0, 0), 1) else (⟨(p2 l).1, cl, (p6 l).1, fr⟩, (0, 0), 0)) by rw [HR.out, if_neg (by rw [← (q8_rel l).1]; simpa using HE8.out), HS.out])
              obtain ⟨a1, x1, hv6⟩ := (Sl.of_owns HQ.out.own).form
              obtain ⟨a2, x2, hvf, _⟩ := HQ.out.fi.fs.form
              have hCs : Cs W21 (.slice a1 cl.length x1) cl := hv6 ▸ Sl.of_owns HQ.out.own
              have hFs : FsAt W21 (.slice a2 fr.length x2) fr := hvf ▸ HQ.out.fi.fs
              have HVD := fun W (hb : Below W21.heap.size W21 W) => rvalid_any ⟨(p2 l).1, cl, (p6 l).1, fr⟩ a1 a2 x1 x2 W (hCs.below hb) (hFs.below (fun r x hx => hx.below hb) hb)
              have b9 := HQ.out.ou
              rw [hv6, hvf] at b9
              have c90 := b9.cell 0 _ rfl
              have c91 := b9.cell 1 _ rfl
              have c92 := b9.cell 2 _ rfl
              have c93 := b9.cell 3 _ rfl
              dsimp only at HVD
              generalize hln1 : cl.length = ln1 at *
              generalize hln2 : fr.length = ln2 at *
              have HV6 := Lib.hid hv6
              have HVF := Lib.hid hvf
              have HLN1 := Lib.hid hln1
              have HLN2 := Lib.hid hln2
              have HB9 := Lib.hid b9
              clear b9 hCs hFs hv6 hvf hln1 hln2 htk hjn
              by_cases hvd : vldS ⟨(p2 l).1, cl, (p6 l).1, fr⟩ = false
              · skip
                have HR2 := Lib.hid (show R = (sch0, (0, 0), 1) by rw [HR1.out, if_pos hvd])
                rw [hvd] at HVD
                clear hvd
                go_upto_region 42 with (go_at_call 13; (with_reducible refine (HVD _ (Below.refl _ _)).mono ?_); rintro e w20 ⟨rfl, hb20⟩)
                have HP20 := HQ.out.below hb20
                have hb2w := HB2.out.below HP20.b
                have hb3w := HB3.out.below HP20.b
                have hL8 := bstep HL1.out HP20.b
                have c20 := hb2w.cell 0 _ rfl
                have c21 := hb2w.cell 1 _ rfl
                have c22 := hb2w.cell 2 _ rfl
                have c23 := hb2w.cell 3 _ rfl
                have f20 := hb2w.frozen 0
                have f21 := hb2w.frozen 1
                have f22 := hb2w.frozen 2
                have f23 := hb2w.frozen 3
                have c30 := hb3w.cell 0 _ rfl
                have c31 := hb3w.cell 1 _ rfl
                have f30 := hb3w.frozen 0
                have f31 := hb3w.frozen 1
                have hl3 := hb3w.lt
                have hl2 := hb2w.lt
                go_wp2
                have e2 := (hb2w.set4 (.string ⟨#[]⟩) (.slice none 0 0) (.int .i64 0) (.slice none 0 0)).far2 (P := w.heap.size + 1) (by omega) (.int .i64 0) (.int .i64 0)
                have e3 := (hb3w.far4 (P := w.heap.size) (by omega) (.string ⟨#[]⟩) (.slice none 0 0) (.int .i64 0) (.slice none 0 0)).set2 (.int .i64 0) (.int .i64 0)
                have hL9 : Below w.heap.size w ((((((w20.setCell ⟨w.heap.size, 0, none⟩ (.string ⟨#[]⟩)).setCell ⟨w.heap.size, 1, none⟩ (.slice none 0 0)).setCell ⟨w.heap.size, 2, none⟩ (.int .i64 0)).setCell ⟨w.heap.size, 3, none⟩ (.slice none 0 0)).setCell ⟨w.heap.size + 1, 0, none⟩ (.int .i64 0)).setCell ⟨w.heap.size + 1, 1, none⟩ (.int .i64 0)) := by go_grown
                generalize ((((((w20.setCell ⟨w.heap.size, 0, none⟩ (.string ⟨#[]⟩)).setCell ⟨w.heap.size, 1, none⟩ (.slice none 0 0)).setCell ⟨w.heap.size, 2, none⟩ (.int .i64 0)).setCell ⟨w.heap.size, 3, none⟩ (.slice none 0 0)).setCell ⟨w.heap.size + 1, 0, none⟩ (.int .i64 0)).setCell ⟨w.heap.size + 1, 1, none⟩ (.int .i64 0)) = W29 at e2 e3 hL9 ⊢
                refine bodyPost_ret (rprs_ret _ _ _ _ _ _ _ (0, 0) 1 rfl rfl rfl e2 e3) rfl ?_
                rw [HR2.out]
                exact ⟨_, _, rfl, Sl.mk0 .., FsAt.nil .., hL9⟩
              · skip
                have HR2 := Lib.hid (show R = (⟨(p2 l).1, cl, (p6 l).1, fr⟩, (0, 0), 0) by rw [HR1.out, if_neg hvd])
                have hvt : vldS ⟨(p2 l).1, cl, (p6 l).1, fr⟩ = true := by simpa using hvd
                rw [hvt] at HVD
                clear hvd hvt
                go_upto_region 43 with (go_at_call 13; (with_reducible refine (HVD _ (Below.refl _ _)).mono ?_); rintro e w20 ⟨rfl, hb20⟩)
                have HP20 := HQ.out.below hb20
                have hb2w := HB2.out.below HP20.b
                have hb3w := HB3.out.below HP20.b
                have hL8 := bstep HL1.out HP20.b
                have hn20 := HP20.n
                have hsz20 := HSZ.out
                have c20 := hb2w.cell 0 _ rfl
                have c21 := hb2w.cell 1 _ rfl
                have c22 := hb2w.cell 2 _ rfl
                have c23 := hb2w.cell 3 _ rfl
                have f20 := hb2w.frozen 0
                have f21 := hb2w.frozen 1
                have f22 := hb2w.frozen 2
                have f23 := hb2w.frozen 3
                have c30 := hb3w.cell 0 _ rfl
                have c31 := hb3w.cell 1 _ rfl
                have f30 := hb3w.frozen 0
                have f31 := hb3w.frozen 1
                have hl3 := hb3w.lt
                have hl2 := hb2w.lt
                have d9 := HB9.out.below hb20
                have d90 := d9.cell 0 _ rfl
                have d91 := d9.cell 1 _ rfl
                have d92 := d9.cell 2 _ rfl
                have d93 := d9.cell 3 _ rfl
                clear d9
                go_wp2
                have e2 := (hb2w.set4 (.string (p2 l).1) (.slice a1 ln1 x1) (.int .i64 (p6 l).1) (.slice a2 ln2 x2)).far2 (P := w.heap.size + 1) (by omega) (.int .i64 0) (.int .i64 0)
                have e3 := (hb3w.far4 (P := w.heap.size) (by omega) (.string (p2 l).1) (.slice a1 ln1 x1) (.int .i64 (p6 l).1) (.slice a2 ln2 x2)).set2 (.int .i64 0) (.int .i64 0)
                have hfr := (((((((Frm.refl [w.heap.size, w.heap.size + 1] w20).grow (gp_set1 _ w.heap.size 0 (.string (p2 l).1)) (fun k e => .inl (by cases e; simp))).grow (gp_set1 _ w.heap.size 1 (.slice a1 ln1 x1)) (fun k e => .inl (by cases e; simp))).grow (gp_set1 _ w.heap.size 2 (.int .i64 (p6 l).1)) (fun k e => .inl (by cases e; simp))).grow (gp_set1 _ w.heap.size 3 (.slice a2 ln2 x2)) (fun k e => .inl (by cases e; simp))).grow (gp_set1 _ (w.heap.size + 1) 0 (.int .i64 0)) (fun k e => .inl (by cases e; simp))).grow (gp_set1 _ (w.heap.size + 1) 1 (.int .i64 0)) (fun k e => .inl (by cases e; simp)))
                have hL9 := hfr.below hL8 (fun k hk => by simp at hk; omega)
                have ho9 := own_blk HP20.own (fun g hg hN hlt => hfr.block g hlt (by simp; omega))
                have hf9 := HP20.fi.keep (fun g hN hlt h1 _ => hfr.block g hlt (by simp; omega))
                clear c20 c21 c22 c23 c30 c31 f20 f21 f22 f23 f30 f31 hl2 hl3 d90 d91 d92 d93 hfr HP20 hb20
                generalize ((((((w20.setCell ⟨w.heap.size, 0, none⟩ (.string (p2 l).1)).setCell ⟨w.heap.size, 1, none⟩ (.slice a1 ln1 x1)).setCell ⟨w.heap.size, 2, none⟩ (.int .i64 (p6 l).1)).setCell ⟨w.heap.size, 3, none⟩ (.slice a2 ln2 x2)).setCell ⟨w.heap.size + 1, 0, none⟩ (.int .i64 0)).setCell ⟨w.heap.size + 1, 1, none⟩ (.int .i64 0)) = W29 at e2 e3 hL9 ho9 hf9 ⊢
                refine bodyPost_ret (rprs_ret _ _ _ _ _ _ _ (0, 0) 0 rfl rfl rfl e2 e3) rfl ?_
                rw [HR2.out]
                have hs9 := Sl.of_owns ho9
                rw [HV6.out] at hs9
                have hg9 := hf9.fs
                rw [HVF.out] at hg9
                refine ⟨.slice a1 ln1 x1, .slice a2 ln2 x2, rfl, ?_, ?_, hL9⟩
                · show Sl W29 (.slice a1 ln1 x1) cl.length 2 (flatC cl)
                  rw [HLN1.out]
                  rw [HLN1.out] at hs9
                  exact hs9
                · exact hg9
          · skip
            have he2 : (r.e == 0) = false := by simpa using he
            have he3 : (r.e != 0) = true := by simpa using he
            have HE := Lib.hid ((rfrR_end (r, fr) (fun h => he h.1)).symm.trans HF.out)
            have HR2 := Lib.hid (show R = (sch0, r.p, r.e) by have e8 : (p8 l).1 = r := by rw [← (q8_rel l).1, ← HE.out]
                                                              rw [HR.out, e8, if_pos he])
            have hb2w := HB2.out.below HQ.out.b
            have hb3w := HB3.out.below HQ.out.b
            have hL8 := bstep HL1.out HQ.out.b
            have hRw : ¬ RB = w.heap.size ∧ ¬ w.heap.size = RB ∧ ¬ RB = w.heap.size + 1 ∧ ¬ w.heap.size + 1 = RB := by have := HNN.out; have := HSZ.out; omega
            obtain ⟨hRw1, hRw2, hRw3, hRw4⟩ := hRw
            clear he
            have c20 := hb2w.cell 0 _ rfl
            have c21 := hb2w.cell 1 _ rfl
            have c22 := hb2w.cell 2 _ rfl
            have c23 := hb2w.cell 3 _ rfl
            have f20 := hb2w.frozen 0
            have f21 := hb2w.frozen 1
            have f22 := hb2w.frozen 2
            have f23 := hb2w.frozen 3
            have c30 := hb3w.cell 0 _ rfl
            have c31 := hb3w.cell 1 _ rfl
            have f30 := hb3w.frozen 0
            have f31 := hb3w.frozen 1
            have hl3 := hb3w.lt
            have hl2 := hb2w.lt
            go_upto_region 40 with fail
            go_region
            have e2 := (hb2w.set4 (.string ⟨#[]⟩) (.slice none 0 0) (.int .i64 0) (.slice none 0 0)).far2 (P := w.heap.size + 1) (by omega) (.int .i64 r.p.1) (.int .i64 r.p.2)
            have e3 := (hb3w.far4 (P := w.heap.size) (by omega) (.string ⟨#[]⟩) (.slice none 0 0) (.int .i64 0) (.slice none 0 0)).set2 (.int .i64 r.p.1) (.int .i64 r.p.2)
            have hL9 : Below w.heap.size w ((((((W21.setCell ⟨w.heap.size, 0, none⟩ (.string ⟨#[]⟩)).setCell ⟨w.heap.size, 1, none⟩ (.slice none 0 0)).setCell ⟨w.heap.size, 2, none⟩ (.int .i64 0)).setCell ⟨w.heap.size, 3, none⟩ (.slice none 0 0)).setCell ⟨w.heap.size + 1, 0, none⟩ (.int .i64 r.p.1)).setCell ⟨w.heap.size + 1, 1, none⟩ (.int .i64 r.p.2)) := by go_grown
            generalize ((((((W21.setCell ⟨w.heap.size, 0, none⟩ (.string ⟨#[]⟩)).setCell ⟨w.heap.size, 1, none⟩ (.slice none 0 0)).setCell ⟨w.heap.size, 2, none⟩ (.int .i64 0)).setCell ⟨w.heap.size, 3, none⟩ (.slice none 0 0)).setCell ⟨w.heap.size + 1, 0, none⟩ (.int .i64 r.p.1)).setCell ⟨w.heap.size + 1, 1, none⟩ (.int .i64 r.p.2)) = W29 at e2 e3 hL9 ⊢
            clear c20 c21 c22 c23 c30 c31 f20 f21 f22 f23 f30 f31 hl2 hl3
            go_wp2
            refine bodyPost_ret (rprs_ret _ _ _ _ _ _ _ r.p r.e rfl rfl rfl e2 e3) rfl ?_
            rw [HR2.out]
            exact ⟨_, _, rfl, Sl.mk0 .., FsAt.nil .., Va.bdrew hL9⟩
    · skip
      have HF1 := Lib.hid (show rlR colIt (r.toks.length + 1) (r, cl) = q3 l by have := HF.out; rwa [if_pos rfl] at this)
      have HBL := Lib.hid (HBD.out rfl)
      have hm := Lib.hid (show mB n RB (.bool true) wr = n + 1 - j by show n + 1 - jOf wr RB = _; rw [jOf_is HI.out.rd])
      clear HF HBD
      have hWs := Lib.hid HI.out.lt
      have hOW : w1.heap.size ≤ OB := by have := HNN.out; omega
      go_upto_region 12 with fail
      have hC := Bx.new wr 78 #[.string ⟨#[]⟩, .int .i64 0]
      have HI1 := Lib.hid (HI.out.below ((Below.refl _ wr).alloc (Nat.le_refl _) (.cells #[.string ⟨#[]⟩, .int .i64 0] 78)))
      have HVC := Lib.hid (show v.ownBlock ≠ some wr.heap.size from fun e => by have := (HI.out.own.lt _ e).2; omega)
      have hCB : ¬ RB = wr.heap.size ∧ ¬ OB = wr.heap.size ∧ W5.heap.size ≤ wr.heap.size := by have := HI.out.n; have := hWs.out; omega
      clear HI hWs
      generalize wr.alloc (.cells #[.string ⟨#[]⟩, .int .i64 0] 78) = W6 at HI1 hC ⊢
      generalize wr.heap.size = CB at HVC hC hCB ⊢
      have HC6 := Lib.hid hC
      obtain ⟨hRC, hOC, hWC⟩ := hCB
      have hCR : ¬ CB = RB := fun e => hRC e.symm
      have hCO : ¬ CB = OB := fun e => hOC e.symm
      clear hC
      have HC : Calls Try.prog 71 #[.agg #[.slice va n vc, .int .i64 (j : Nat), .int .i64 r.p.1, .int .i64 r.p.2, .int .i64 r.e]] W6 fun y w' => ∃ i' : Nat, y = .returned (.tuple #[.string (nameR r).1, .agg #[.slice va n vc, .int .i64 (i' : Nat), .int .i64 (nameR r).2.p.1, .int .i64 (nameR r).2.p.2, .int .i64 (nameR r).2.e]]) ∧ RQ l i' ((nameR r).2) ∧ Below W6.heap.size W6 w' := rnameQ l va n vc j r W6 HN.out hn6 (ts_li HT1.out H5.out HI1.out hOW) QR.out
      have d0 := (HI1.out.rd).cell 0 _ rfl
      have d1 := (HI1.out.rd).cell 1 _ rfl
      have d2 := (HI1.out.rd).cell 2 _ rfl
      have d3 := (HI1.out.rd).cell 3 _ rfl
      have d4 := (HI1.out.rd).cell 4 _ rfl
      go_upto_region 13 with (go_at_call 71; (with_reducible refine HC.mono ?_); rintro y W7c ⟨j7, rfl, hq, hb⟩; have hH := HI1.out.below hb; have e0 := (hH.rd).cell 0 _ rfl; have e1 := (hH.rd).cell 1 _ rfl; have e2 := (hH.rd).cell 2 _ rfl; have e3 := (hH.rd).cell 3 _ rfl; have e4 := (hH.rd).cell 4 _ rfl; have f0 := (hH.rd).frozen 0; have f1 := (hH.rd).frozen 1; have f2 := (hH.rd).frozen 2; have f3 := (hH.rd).frozen 3; have f4 := (hH.rd).frozen 4; have hlt := hH.rd.lt; have g0 := (HC6.out.below hb).cell 0 _ rfl; have gf0 := (HC6.out.below hb).frozen 0; have glt := (HC6.out.below hb).lt)
      have hN := Lib.hid ((hH.set_x CB 0 (.string (nameR r).1) hWC HVC.out).set_rd rfl (.slice va n vc) (.int .i64 (j7 : Nat)) (.int .i64 (nameR r).2.p.1) (.int .i64 (nameR r).2.p.2) (.int .i64 (nameR r).2.e))
      have HC7 := Lib.hid (((HC6.out.below hb).sett 0 (.string (nameR r).1) (by simp) rfl).far5 hCR (.slice va n vc) (.int .i64 (j7 : Nat)) (.int .i64 (nameR r).2.p.1) (.int .i64 (nameR r).2.p.2) (.int .i64 (nameR r).2.e))
      have Q7 := Lib.hid hq
      clear HC d0 d1 d2 d3 d4 e0 e1 e2 e3 e4 f0 f1 f2 f3 f4 hlt hH hq hb HI1 g0 gf0 glt HC6
      generalize ((((((W7c.setCell ⟨CB, 0, none⟩ (.string (nameR r).1)).setCell ⟨RB, 0, none⟩ (.slice va n vc)).setCell ⟨RB, 1, none⟩ (.int .i64 (j7 : Nat))).setCell ⟨RB, 2, none⟩ (.int .i64 (nameR r).2.p.1)).setCell ⟨RB, 3, none⟩ (.int .i64 (nameR r).2.p.2)).setCell ⟨RB, 4, none⟩ (.int .i64 (nameR r).2.e)) = W7 at *
      have HI2 := hN
      clear hN
      have HC : Calls Try.prog 72 #[.agg #[.slice va n vc, .int .i64 (j7 : Nat), .int .i64 (nameR r).2.p.1, .int .i64 (nameR r).2.p.2, .int .i64 (nameR r).2.e]] W7 fun y w' => ∃ i' : Nat, y = .returned (.tuple #[.string (nextR (nameR r).2).1.1, .agg #[.slice va n vc, .int .i64 (i' : Nat), .int .i64 (nextR (nameR r).2).2.p.1, .int .i64 (nextR (nameR r).2).2.p.2, .int .i64 (nextR (nameR r).2).2.e]]) ∧ RQ l i' ((nextR (nameR r).2).2) ∧ (((nextR (nameR r).2).2).e = 0 → LstT l i' ((nextR (nameR r).2).1)) ∧ Below W7.heap.size W7 w' := rnextQ l va n vc j7 (nameR r).2 W7 HN.out hn6 (ts_li HT1.out H5.out HI2.out hOW) Q7.out
      have d0 := (HI2.out.rd).cell 0 _ rfl
      have d1 := (HI2.out.rd).cell 1 _ rfl
      have d2 := (HI2.out.rd).cell 2 _ rfl
      have d3 := (HI2.out.rd).cell 3 _ rfl
      have d4 := (HI2.out.rd).cell 4 _ rfl
      go_upto_region 14 with (go_at_call 72; (with_reducible refine HC.mono ?_); rintro y W8c ⟨j8, rfl, hq, hl, hb⟩; have hH := HI2.out.below hb; have e0 := (hH.rd).cell 0 _ rfl; have e1 := (hH.rd).cell 1 _ rfl; have e2 := (hH.rd).cell 2 _ rfl; have e3 := (hH.rd).cell 3 _ rfl; have e4 := (hH.rd).cell 4 _ rfl; have f0 := (hH.rd).frozen 0; have f1 := (hH.rd).frozen 1; have f2 := (hH.rd).frozen 2; have f3 := (hH.rd).frozen 3; have f4 := (hH.rd).frozen 4; have hlt := hH.rd.lt)
      have hN := Lib.hid (hH.below ((Below.refl _ W8c).alloc (Nat.le_refl _) (.cells #[.slice va n vc, .int .i64 (j8 : Nat), .int .i64 (nextR (nameR r).2).2.p.1, .int .i64 (nextR (nameR r).2).2.p.2, .int .i64 (nextR (nameR r).2).2.e] 108)))
      have hbq := Bx.new W8c 108 #[.slice va n vc, .int .i64 (j8 : Nat), .int .i64 (nextR (nameR r).2).2.p.1, .int .i64 (nextR (nameR r).2).2.p.2, .int .i64 (nextR (nameR r).2).2.e]
      have hqs : W8c.heap.size < (W8c.alloc (.cells #[.slice va n vc, .int .i64 (j8 : Nat), .int .i64 (nextR (nameR r).2).2.p.1, .int .i64 (nextR (nameR r).2).2.p.2, .int .i64 (nextR (nameR r).2).2.e] 108)).heap.size := by simp
      have HC8 := Lib.hid ((HC7.out.below hb).below ((Below.refl _ W8c).alloc (Nat.le_refl _) (.cells #[.slice va n vc, .int .i64 (j8 : Nat), .int .i64 (nextR (nameR r).2).2.p.1, .int .i64 (nextR (nameR r).2).2.p.2, .int .i64 (nextR (nameR r).2).2.e] 108)))
      have hQB : ¬ RB = W8c.heap.size ∧ ¬ CB = W8c.heap.size := by have := (HC7.out.below hb).lt; omega
      have Q8 := Lib.hid hq
      have HLs := Lib.hid hl
      clear HC d0 d1 d2 d3 d4 e0 e1 e2 e3 e4 f0 f1 f2 f3 f4 hlt hH hq hb hl HI2 Q7 HC7
      generalize W8c.alloc (.cells #[.slice va n vc, .int .i64 (j8 : Nat), .int .i64 (nextR (nameR r).2).2.p.1, .int .i64 (nextR (nameR r).2).2.p.2, .int .i64 (nextR (nameR r).2).2.e] 108) = W8 at *
      have HI3 := hN
      clear hN
      generalize W8c.heap.size = QB at hbq hqs hQB ⊢
      clear hqs
      obtain ⟨hRQ, hCQ⟩ := hQB
      have hQR : ¬ QB = RB := fun e => hRQ e.symm
      have d0 := (HI3.out.rd).cell 0 _ rfl
      have d1 := (HI3.out.rd).cell 1 _ rfl
      have d2 := (HI3.out.rd).cell 2 _ rfl
      have d3 := (HI3.out.rd).cell 3 _ rfl
      have d4 := (HI3.out.rd).cell 4 _ rfl
      have f0 := (HI3.out.rd).frozen 0
      have f1 := (HI3.out.rd).frozen 1
      have f2 := (HI3.out.rd).frozen 2
      have f3 := (HI3.out.rd).frozen 3
      have f4 := (HI3.out.rd).frozen 4
      have q0 := (hbq).cell 0 _ rfl
      have q1 := (hbq).cell 1 _ rfl
      have q2 := (hbq).cell 2 _ rfl
      have q3 := (hbq).cell 3 _ rfl
      have q4 := (hbq).cell 4 _ rfl
      have hlt := HI3.out.rd.lt
      have hN := Lib.hid (HI3.out.set_rd rfl (.slice va n vc) (.int .i64 (j8 : Nat)) (.int .i64 (nextR (nameR r).2).2.p.1) (.int .i64 (nextR (nameR r).2).2.p.2) (.int .i64 (nextR (nameR r).2).2.e))
      have HC9 := Lib.hid (HC8.out.far5 hCR (.slice va n vc) (.int .i64 (j8 : Nat)) (.int .i64 (nextR (nameR r).2).2.p.1) (.int .i64 (nextR (nameR r).2).2.p.2) (.int .i64 (nextR (nameR r).2).2.e))
      go_upto_region 15 with fail
      clear hbq HI3 HC8 hlt d0 d1 d2 d3 d4 f0 f1 f2 f3 f4 q0 q1 q2 q3 q4
      generalize (((((W8.setCell ⟨RB, 0, none⟩ (.slice va n vc)).setCell ⟨RB, 1, none⟩ (.int .i64 (j8 : Nat))).setCell ⟨RB, 2, none⟩ (.int .i64 (nextR (nameR r).2).2.p.1)).setCell ⟨RB, 3, none⟩ (.int .i64 (nextR (nameR r).2).2.p.2)).setCell ⟨RB, 4, none⟩ (.int .i64 (nextR (nameR r).2).2.e)) = W9 at *
      have HI4 := hN
      clear hN
      have HKW := rkinds_w W9
      have HFZ : ∀ W, W = W9.alloc (.cells (kwL.map Value.string).toArray 9) → Calls Try.prog 73 #[.slice (some ⟨W9.heap.size, 0, none⟩) 4 4, .string (nextR (nameR r).2).1.1] W fun e w' => e = .returned (.tuple #[.int .i64 (Lx.findZ kwL (nextR (nameR r).2).1.1).1, .int .i64 (Lx.findZ kwL (nextR (nameR r).2).1.1).2]) ∧ W = w' := fun W hW => by subst hW; exact Lx.rfind_any kwL W9.heap.size 4 (nextR (nameR r).2).1.1 _ (by decide) (Lx.At.new W9 kwL 9) 4 rfl
      have HI5a := fun W (hW : W = W9.alloc (.cells (kwL.map Value.string).toArray 9)) => Lib.hid (HI4.out.below (hW ▸ (Below.refl _ W9).alloc (Nat.le_refl _) (.cells (kwL.map Value.string).toArray 9) : Below W9.heap.size W9 W))
      have HC10a := fun W (hW : W = W9.alloc (.cells (kwL.map Value.string).toArray 9)) => Lib.hid (HC9.out.below (hW ▸ (Below.refl _ W9).alloc (Nat.le_refl _) (.cells (kwL.map Value.string).toArray 9) : Below W9.heap.size W9 W))
      clear HI4 HC9
      rcases findZ_kw (nextR (nameR r).2).1.1 with ⟨hk1, hk2⟩ | ⟨hk1, hk2⟩
      · skip
        simp only [hk2] at HFZ
        have hcol := Lib.hid (show (colIt (r, cl)).1 = (nextR (nameR r).2).2 by show (wordR (nameR r).2 kwL).2 = _; unfold wordR; dsimp only; rw [if_pos hk1])
        clear hk1 hk2
        go_upto_region 16 with (first | (go_at_call 52; (with_reducible refine HKW.mono ?_); rintro e W10 ⟨rfl, hw10⟩; have HFY := HFZ _ hw10; have HI5' := HI5a _ hw10; have HC10 := HC10a _ hw10; clear hw10) | (go_at_call 73; (with_reducible refine HFY.mono ?_); rintro e w11 ⟨rfl, rfl⟩))
        clear HKW HFZ HFY HI5a HC10a
        generalize hfk : Lib.idxOfS kwL (nextR (nameR r).2).1.1 + 1 = fk
        have HFK := Lib.hid hfk
        clear hfk
        go_upto_region 18 with fail
        have HI6 : Hid (LI 28 W5 RB OB #[.slice va n vc, .int .i64 (j8 : Nat), .int .i64 (colIt (r, cl)).1.p.1, .int .i64 (colIt (r, cl)).1.p.2, .int .i64 (colIt (r, cl)).1.e] #[.string (p2 l).1, v, .int .i64 0, .slice none 0 0] 78 2 v cl.length (flatC cl) W10) := Lib.hid (by rw [hcol.out]; exact HI5'.out)
        have Q9 : Hid (RQ l j8 (colIt (r, cl)).1) := Lib.hid (by rw [hcol.out]; exact Q8.out)
        have HC11 := HC10
        clear HI5' HC10 Q8 hcol HLs
        have hit := Lib.hid (show itemR colIt (r, cl) = ((wordR (colIt (r, cl)).1 kMore).1, ((wordR (colIt (r, cl)).1 kMore).2, cl ++ [((nameR r).1, fk)])) by rw [← HFK.out]; rfl)
        generalize (colIt (r, cl)).1 = rc at HI6 Q9 hit
        generalize (nameR r).1 = x1 at HC11 hit ⊢
        clear HFK
        have y0 := HC11.out.cell 0 _ rfl
        have y1 := HC11.out.cell 1 _ rfl
        have yf := HC11.out.frozen 1
        have yl := HC11.out.lt
        have HI7 := Lib.hid (HI6.out.set_x CB 1 (.int .i64 fk) hWC HVC.out)
        have HC12 := Lib.hid (HC11.out.sett 1 (.int .i64 fk) (by simp) rfl)
        go_upto_region 19 with fail
        clear y0 y1 yf yl HI6 HC11
        generalize W10.setCell ⟨CB, 1, none⟩ (.int .i64 fk) = W12 at *
        have y0 := HC12.out.cell 0 _ rfl
        have y1 := HC12.out.cell 1 _ rfl
        have yl := HC12.out.lt
        have o1 := HI7.out.pb.cell 1 _ rfl
        have olt := HI7.out.pb.lt
        have hWl := HI7.out.lt
        have HOV := Lib.hid (show some OB ≠ v.ownBlock from fun e => by have := (HI7.out.own.lt _ e.symm).1; have := HI7.out.n; omega)
        obtain ⟨ii, hi, hz0', hz1', hz2'⟩ := info_parts infoC
        have hbl := HBL.out
        go_upto_region 20 with (at_builtin; go_must (refine wpList_app3 (wX := W12) W5.heap.size hWl rfl (.tmp 71) (.tmp 73) 25 rfl 78 Try.underlying25 hi hz0' hz1' hz2' rfl (by decide) v cl.length (flatC cl) rfl [.string x1, .int .i64 fk] 78 HI7.out.own rfl (by simp) rfl (by intro u hu; simp at hu; rcases hu with rfl | rfl <;> rfl) (by unfold maxLen; omega) (by omega) ?_); intro g1 cap1 w8 hown8 hgr hG; have b98 := HI7.out.pb.far hgr HOV.out; have n1 := b98.cell 1 _ rfl; have n2 := b98.frozen 1; have n3 := b98.lt)
        have HI8 : Hid (LI 28 W5 RB OB #[.slice va n vc, .int .i64 (j8 : Nat), .int .i64 rc.p.1, .int .i64 rc.p.2, .int .i64 rc.e] #[.string (p2 l).1, .slice (some ⟨g1, 0, none⟩) (cl.length + 1) cap1, .int .i64 0, .slice none 0 0] 78 2 (.slice (some ⟨g1, 0, none⟩) (cl.length + 1) cap1) (cl ++ [(x1, fk)]).length (flatC (cl ++ [(x1, fk)])) (w8.setCell ⟨OB, 1, none⟩ (.slice (some ⟨g1, 0, none⟩) (cl.length + 1) cap1))) := Lib.hid (((HI7.out.app hown8 hgr).set_pb 1 _ (by simp) rfl).cast (by simp) (by rw [flatC_snoc]))
        clear y0 y1 yl o1 olt HI7 HC12 HOV b98 n1 n2 n3 hown8 hgr hG HVC
        generalize w8.setCell ⟨OB, 1, none⟩ (.slice (some ⟨g1, 0, none⟩) (cl.length + 1) cap1) = W13 at *
        have HC : Calls Try.prog 75 #[.agg #[.slice va n vc, .int .i64 (j8 : Nat), .int .i64 rc.p.1, .int .i64 rc.p.2, .int .i64 rc.e]] W13 fun y w' => ∃ i' : Nat, y = .returned (.tuple #[.bool (decide ((wordR rc kMore).1 = ⟨#[44]⟩)), .agg #[.slice va n vc, .int .i64 (i' : Nat), .int .i64 (wordR rc kMore).2.p.1, .int .i64 (wordR rc kMore).2.p.2, .int .i64 (wordR rc kMore).2.e]]) ∧ RQ l i' ((wordR rc kMore).2) ∧ Below W13.heap.size W13 w' := rmoreQ l va n vc j8 rc W13 HN.out hn6 (ts_li HT1.out H5.out HI8.out hOW) Q9.out
        have d0 := (HI8.out.rd).cell 0 _ rfl
        have d1 := (HI8.out.rd).cell 1 _ rfl
        have d2 := (HI8.out.rd).cell 2 _ rfl
        have d3 := (HI8.out.rd).cell 3 _ rfl
        have d4 := (HI8.out.rd).cell 4 _ rfl
        go_wp2_with (go_at_call 75; (with_reducible refine HC.mono ?_); rintro y W14c ⟨j9, rfl, hq, hb⟩; have hH := HI8.out.below hb; have e0 := (hH.rd).cell 0 _ rfl; have e1 := (hH.rd).cell 1 _ rfl; have e2 := (hH.rd).cell 2 _ rfl; have e3 := (hH.rd).cell 3 _ rfl; have e4 := (hH.rd).cell 4 _ rfl; have f0 := (hH.rd).frozen 0; have f1 := (hH.rd).frozen 1; have f2 := (hH.rd).frozen 2; have f3 := (hH.rd).frozen 3; have f4 := (hH.rd).frozen 4; have hlt := hH.rd.lt)
        have hN := Lib.hid ((hH).set_rd rfl (.slice va n vc) (.int .i64 (j9 : Nat)) (.int .i64 (wordR rc kMore).2.p.1) (.int .i64 (wordR rc kMore).2.p.2) (.int .i64 (wordR rc kMore).2.e))
        have Q10 := Lib.hid hq
        clear HC d0 d1 d2 d3 d4 e0 e1 e2 e3 e4 f0 f1 f2 f3 f4 hlt hH hq hb HI8 Q9
        generalize (((((W14c.setCell ⟨RB, 0, none⟩ (.slice va n vc)).setCell ⟨RB, 1, none⟩ (.int .i64 (j9 : Nat))).setCell ⟨RB, 2, none⟩ (.int .i64 (wordR rc kMore).2.p.1)).setCell ⟨RB, 3, none⟩ (.int .i64 (wordR rc kMore).2.p.2)).setCell ⟨RB, 4, none⟩ (.int .i64 (wordR rc kMore).2.e)) = W14 at *
        have HI9 := hN
        clear hN
        have hcm : (itemR colIt (r, cl)).1 = (wordR rc kMore).1 := by rw [hit.out]
        have hi2 : (itemR colIt (r, cl)).2 = ((wordR rc kMore).2, cl ++ [(x1, fk)]) := by rw [hit.out]
        have hrel9 : L1 l W5 RB OB va n vc (p2 l).1 (.bool (decide ((wordR rc kMore).1 = ⟨#[44]⟩))) W14 ∧ mB n RB (.bool (decide ((wordR rc kMore).1 = ⟨#[44]⟩))) W14 < mB n RB (.bool true) wr := by
          have hql := QR.out.1
          have hln := HN.out
          by_cases hc : (wordR rc kMore).1 = ⟨#[44]⟩
          · obtain ⟨k1, k2, k3⟩ := rl_go colIt colIt_len (r, cl) (hcm.trans hc)
            rw [hi2] at k1 k2 k3
            dsimp only at k1 k2 k3
            have hl1 := QR.out.len
            have hl2 := Q10.out.len
            refine ⟨⟨_, _, _, j9, _, rfl, Q10, HI9, Lib.hid ?_, Lib.hid fun _ => ?_⟩, ?_⟩
            · rw [if_pos (decide_eq_true hc), ← k1]; exact HF1.out
            · rw [List.length_append]; simp; omega
            · rw [hm.out, decide_eq_true hc]
              show n + 1 - jOf W14 RB < _
              rw [jOf_is HI9.out.rd]
              omega
          · have k1 := rl_end colIt (r, cl) (fun h => hc (hcm.symm.trans h))
            rw [hi2] at k1
            refine ⟨⟨_, _, _, j9, _, rfl, Q10, HI9, Lib.hid ?_, Lib.hid fun h => absurd (of_decide_eq_true h) hc⟩, ?_⟩
            · rw [if_neg (by simpa using hc), ← k1]; exact HF1.out
            · rw [hm.out, decide_eq_false hc]
              show 0 < _
              omega
        clear HI9 Q10 hcm hi2 hit
        go_roundw
        case rel => exact hrel9.1
        case measure => exact hrel9.2
      · skip
        simp only [hk2] at HFZ
        have hcol := Lib.hid (show (colIt (r, cl)).1 = failR (nextR (nameR r).2).2 (nextR (nameR r).2).1 3 by show (wordR (nameR r).2 kwL).2 = _; unfold wordR; dsimp only; rw [if_neg (by rw [hk1]; simp)])
        clear hk1 hk2
        go_upto_region 16 with (first | (go_at_call 52; (with_reducible refine HKW.mono ?_); rintro e W10 ⟨rfl, hw10⟩; have HFY := HFZ _ hw10; have HI5' := HI5a _ hw10; have HC10 := HC10a _ hw10; clear hw10) | (go_at_call 73; (with_reducible refine HFY.mono ?_); rintro e w11 ⟨rfl, rfl⟩))
        clear HKW HFZ HFY HI5a HC10a
        generalize hfk : Lib.idxOfS kwL (nextR (nameR r).2).1.1 + 1 = fk
        have HFK := Lib.hid hfk
        clear hfk
        have HC : Calls Try.prog 74 #[.agg #[.slice va n vc, .int .i64 (j8 : Nat), .int .i64 (nextR (nameR r).2).2.p.1, .int .i64 (nextR (nameR r).2).2.p.2, .int .i64 (nextR (nameR r).2).2.e], .int .i64 3] W10 fun y w' => y = .returned (.agg #[.slice va n vc, .int .i64 (j8 : Nat), .int .i64 (failR (nextR (nameR r).2).2 (nextR (nameR r).2).1 3).p.1, .int .i64 (failR (nextR (nameR r).2).2 (nextR (nameR r).2).1 3).p.2, .int .i64 (failR (nextR (nameR r).2).2 (nextR (nameR r).2).1 3).e]) ∧ RQ l j8 ((failR (nextR (nameR r).2).2 (nextR (nameR r).2).1 3)) ∧ Below W10.heap.size W10 w' := rfailQ' l va n vc j8 (nextR (nameR r).2).2 (nextR (nameR r).2).1 3 W10 HN.out hn6 (ts_li HT1.out H5.out HI5'.out hOW) Q8.out HLs.out
        have d0 := (HI5'.out.rd).cell 0 _ rfl
        have d1 := (HI5'.out.rd).cell 1 _ rfl
        have d2 := (HI5'.out.rd).cell 2 _ rfl
        have d3 := (HI5'.out.rd).cell 3 _ rfl
        have d4 := (HI5'.out.rd).cell 4 _ rfl
        go_upto_region 18 with (go_at_call 74; (with_reducible refine HC.mono ?_); rintro y W11c ⟨rfl, hq, hb⟩; have hH := HI5'.out.below hb; have e0 := (hH.rd).cell 0 _ rfl; have e1 := (hH.rd).cell 1 _ rfl; have e2 := (hH.rd).cell 2 _ rfl; have e3 := (hH.rd).cell 3 _ rfl; have e4 := (hH.rd).cell 4 _ rfl; have f0 := (hH.rd).frozen 0; have f1 := (hH.rd).frozen 1; have f2 := (hH.rd).frozen 2; have f3 := (hH.rd).frozen 3; have f4 := (hH.rd).frozen 4; have hlt := hH.rd.lt)
        have hN := Lib.hid ((hH).set_rd rfl (.slice va n vc) (.int .i64 (j8 : Nat)) (.int .i64 (failR (nextR (nameR r).2).2 (nextR (nameR r).2).1 3).p.1) (.int .i64 (failR (nextR (nameR r).2).2 (nextR (nameR r).2).1 3).p.2) (.int .i64 (failR (nextR (nameR r).2).2 (nextR (nameR r).2).1 3).e))
        have HC11 := Lib.hid ((HC10.out.below hb).far5 hCR (.slice va n vc) (.int .i64 (j8 : Nat)) (.int .i64 (failR (nextR (nameR r).2).2 (nextR (nameR r).2).1 3).p.1) (.int .i64 (failR (nextR (nameR r).2).2 (nextR (nameR r).2).1 3).p.2) (.int .i64 (failR (nextR (nameR r).2).2 (nextR (nameR r).2).1 3).e))
        have Q9a := Lib.hid hq
        clear HC d0 d1 d2 d3 d4 e0 e1 e2 e3 e4 f0 f1 f2 f3 f4 hlt hH hq hb HI5' Q8 HLs HC10
        generalize (((((W11c.setCell ⟨RB, 0, none⟩ (.slice va n vc)).setCell ⟨RB, 1, none⟩ (.int .i64 (j8 : Nat))).setCell ⟨RB, 2, none⟩ (.int .i64 (failR (nextR (nameR r).2).2 (nextR (nameR r).2).1 3).p.1)).setCell ⟨RB, 3, none⟩ (.int .i64 (failR (nextR (nameR r).2).2 (nextR (nameR r).2).1 3).p.2)).setCell ⟨RB, 4, none⟩ (.int .i64 (failR (nextR (nameR r).2).2 (nextR (nameR r).2).1 3).e)) = W11 at *
        have HI6a := hN
        clear hN
        have HI6 : Hid (LI 28 W5 RB OB #[.slice va n vc, .int .i64 (j8 : Nat), .int .i64 (colIt (r, cl)).1.p.1, .int .i64 (colIt (r, cl)).1.p.2, .int .i64 (colIt (r, cl)).1.e] #[.string (p2 l).1, v, .int .i64 0, .slice none 0 0] 78 2 v cl.length (flatC cl) W11) := Lib.hid (by rw [hcol.out]; exact HI6a.out)
        have Q9 : Hid (RQ l j8 (colIt (r, cl)).1) := Lib.hid (by rw [hcol.out]; exact Q9a.out)
        clear HI6a Q9a hcol
        have hit := Lib.hid (show itemR colIt (r, cl) = ((wordR (colIt (r, cl)).1 kMore).1, ((wordR (colIt (r, cl)).1 kMore).2, cl ++ [((nameR r).1, fk)])) by rw [← HFK.out]; rfl)
        generalize (colIt (r, cl)).1 = rc at HI6 Q9 hit
        generalize (nameR r).1 = x1 at HC11 hit ⊢
        clear HFK
        have y0 := HC11.out.cell 0 _ rfl
        have y1 := HC11.out.cell 1 _ rfl
        have yf := HC11.out.frozen 1
        have yl := HC11.out.lt
        have HI7 := Lib.hid (HI6.out.set_x CB 1 (.int .i64 fk) hWC HVC.out)
        have HC12 := Lib.hid (HC11.out.sett 1 (.int .i64 fk) (by simp) rfl)
        go_upto_region 19 with fail
        clear y0 y1 yf yl HI6 HC11
        generalize W11.setCell ⟨CB, 1, none⟩ (.int .i64 fk) = W12 at *
        have y0 := HC12.out.cell 0 _ rfl
        have y1 := HC12.out.cell 1 _ rfl
        have yl := HC12.out.lt
        have o1 := HI7.out.pb.cell 1 _ rfl
        have olt := HI7.out.pb.lt
        have hWl := HI7.out.lt
        have HOV := Lib.hid (show some OB ≠ v.ownBlock from fun e => by have := (HI7.out.own.lt _ e.symm).1; have := HI7.out.n; omega)
        obtain ⟨ii, hi, hz0', hz1', hz2'⟩ := info_parts infoC
        have hbl := HBL.out
        go_upto_region 20 with (at_builtin; go_must (refine wpList_app3 (wX := W12) W5.heap.size hWl rfl (.tmp 71) (.tmp 73) 25 rfl 78 Try.underlying25 hi hz0' hz1' hz2' rfl (by decide) v cl.length (flatC cl) rfl [.string x1, .int .i64 fk] 78 HI7.out.own rfl (by simp) rfl (by intro u hu; simp at hu; rcases hu with rfl | rfl <;> rfl) (by unfold maxLen; omega) (by omega) ?_); intro g1 cap1 w8 hown8 hgr hG; have b98 := HI7.out.pb.far hgr HOV.out; have n1 := b98.cell 1 _ rfl; have n2 := b98.frozen 1; have n3 := b98.lt)
        have HI8 : Hid (LI 28 W5 RB OB #[.slice va n vc, .int .i64 (j8 : Nat), .int .i64 rc.p.1, .int .i64 rc.p.2, .int .i64 rc.e] #[.string (p2 l).1, .slice (some ⟨g1, 0, none⟩) (cl.length + 1) cap1, .int .i64 0, .slice none 0 0] 78 2 (.slice (some ⟨g1, 0, none⟩) (cl.length + 1) cap1) (cl ++ [(x1, fk)]).length (flatC (cl ++ [(x1, fk)])) (w8.setCell ⟨OB, 1, none⟩ (.slice (some ⟨g1, 0, none⟩) (cl.length + 1) cap1))) := Lib.hid (((HI7.out.app hown8 hgr).set_pb 1 _ (by simp) rfl).cast (by simp) (by rw [flatC_snoc]))
        clear y0 y1 yl o1 olt HI7 HC12 HOV b98 n1 n2 n3 hown8 hgr hG HVC
        generalize w8.setCell ⟨OB, 1, none⟩ (.slice (some ⟨g1, 0, none⟩) (cl.length + 1) cap1) = W13 at *
        have HC : Calls Try.prog 75 #[.agg #[.slice va n vc, .int .i64 (j8 : Nat), .int .i64 rc.p.1, .int .i64 rc.p.2, .int .i64 rc.e]] W13 fun y w' => ∃ i' : Nat, y = .returned (.tuple #[.bool (decide ((wordR rc kMore).1 = ⟨#[44]⟩)), .agg #[.slice va n vc, .int .i64 (i' : Nat), .int .i64 (wordR rc kMore).2.p.1, .int .i64 (wordR rc kMore).2.p.2, .int .i64 (wordR rc kMore).2.e]]) ∧ RQ l i' ((wordR rc kMore).2) ∧ Below W13.heap.size W13 w' := rmoreQ l va n vc j8 rc W13 HN.out hn6 (ts_li HT1.out H5.out HI8.out hOW) Q9.out
        have d0 := (HI8.out.rd).cell 0 _ rfl
        have d1 := (HI8.out.rd).cell 1 _ rfl
        have d2 := (HI8.out.rd).cell 2 _ rfl
        have d3 := (HI8.out.rd).cell 3 _ rfl
        have d4 := (HI8.out.rd).cell 4 _ rfl
        go_wp2_with (go_at_call 75; (with_reducible refine HC.mono ?_); rintro y W14c ⟨j9, rfl, hq, hb⟩; have hH := HI8.out.below hb; have e0 := (hH.rd).cell 0 _ rfl; have e1 := (hH.rd).cell 1 _ rfl; have e2 := (hH.rd).cell 2 _ rfl; have e3 := (hH.rd).cell 3 _ rfl; have e4 := (hH.rd).cell 4 _ rfl; have f0 := (hH.rd).frozen 0; have f1 := (hH.rd).frozen 1; have f2 := (hH.rd).frozen 2; have f3 := (hH.rd).frozen 3; have f4 := (hH.rd).frozen 4; have hlt := hH.rd.lt)
        have hN := Lib.hid ((hH).set_rd rfl (.slice va n vc) (.int .i64 (j9 : Nat)) (.int .i64 (wordR rc kMore).2.p.1) (.int .i64 (wordR rc kMore).2.p.2) (.int .i64 (wordR rc kMore).2.e))
        have Q10 := Lib.hid hq
        clear HC d0 d1 d2 d3 d4 e0 e1 e2 e3 e4 f0 f1 f2 f3 f4 hlt hH hq hb HI8 Q9
        generalize (((((W14c.setCell ⟨RB, 0, none⟩ (.slice va n vc)).setCell ⟨RB, 1, none⟩ (.int .i64 (j9 : Nat))).setCell ⟨RB, 2, none⟩ (.int .i64 (wordR rc kMore).2.p.1)).setCell ⟨RB, 3, none⟩ (.int .i64 (wordR rc kMore).2.p.2)).setCell ⟨RB, 4, none⟩ (.int .i64 (wordR rc kMore).2.e)) = W14 at *
        have HI9 := hN
        clear hN
        have hcm : (itemR colIt (r, cl)).1 = (wordR rc kMore).1 := by rw [hit.out]
        have hi2 : (itemR colIt (r, cl)).2 = ((wordR rc kMore).2, cl ++ [(x1, fk)]) := by rw [hit.out]
        have hrel9 : L1 l W5 RB OB va n vc (p2 l).1 (.bool (decide ((wordR rc kMore).1 = ⟨#[44]⟩))) W14 ∧ mB n RB (.bool (decide ((wordR rc kMore).1 = ⟨#[44]⟩))) W14 < mB n RB (.bool true) wr := by
          have hql := QR.out.1
          have hln := HN.out
          by_cases hc : (wordR rc kMore).1 = ⟨#[44]⟩
          · obtain ⟨k1, k2, k3⟩ := rl_go colIt colIt_len (r, cl) (hcm.trans hc)
            rw [hi2] at k1 k2 k3
            dsimp only at k1 k2 k3
            have hl1 := QR.out.len
            have hl2 := Q10.out.len
            refine ⟨⟨_, _, _, j9, _, rfl, Q10, HI9, Lib.hid ?_, Lib.hid fun _ => ?_⟩, ?_⟩
            · rw [if_pos (decide_eq_true hc), ← k1]; exact HF1.out
            · rw [List.length_append]; simp; omega
            · rw [hm.out, decide_eq_true hc]
              show n + 1 - jOf W14 RB < _
              rw [jOf_is HI9.out.rd]
              omega
          · have k1 := rl_end colIt (r, cl) (fun h => hc (hcm.symm.trans h))
            rw [hi2] at k1
            refine ⟨⟨_, _, _, j9, _, rfl, Q10, HI9, Lib.hid ?_, Lib.hid fun h => absurd (of_decide_eq_true h) hc⟩, ?_⟩
            · rw [if_neg (by simpa using hc), ← k1]; exact HF1.out
            · rw [hm.out, decide_eq_false hc]
              show 0 < _
              omega
        clear HI9 Q10 hcm hi2 hit
        go_roundw
        case rel => exact hrel9.1
        case measure => exact hrel9.2
end Go.Proofs.Ytokbipfkpojflaa.Sc
