/-
  Desks: equal ones (desks).
  Desks: what the program and the document answer agrees.
  Desks: the sanity check of the statements.
  A slice of numbers that came in reads as a list.
  A desk that came in.
  CounsellorRaw's walk.
  An array of two numbers that came in.
  Conditions: those that each theorem names.
-/
import Derived.Test.YtjckpammcgeloaaM10
import Derived.Deep.Slices
import Derived.SliceStrings
import Derived.Deep.Strs
import Derived.ChangeArms
import Derived.OpenShut
import Derived.Lib.SmallJoins
import Derived.ChangeSame
set_option linter.unusedVariables false
set_option linter.unusedSimpArgs false
namespace Go.Proofs.Ytjckpammcgeloaa
open Go.RowKit

theorem sameT_self (S : List ByteArray) : sameT S S = true := sameT_iff.2 rfl
theorem CouC.below {w w' : World} {x : Nat} {id : Int} {o : ByteArray} {v : Value} (h : w.heap[x]? = some (.cells #[.int .i64 id, .string o, v] 45 (0, 0))) (hb : Below w.heap.size w w') : w'.heap[x]? = some (.cells #[.int .i64 id, .string o, v] 45 (0, 0)) := (hb.block x (blk_ltE h)).trans h
set_option maxRecDepth 100000 in
set_option maxHeartbeats 2000000 in
theorem same1_any {P P' : Nat → Prop} (x y : CouV) (d : CouD) (w : World) (hx : CouR P w x d) (hy : CouR P' w y d) (hl : d.away.length ≤ 100000) :
  Calls Try.prog 72 #[couV x, couV y] w (RetB (.bool true) w) := by
 obtain ⟨xi, xo, xA, xn, xc⟩ := x
 obtain ⟨yi, yo, yA, yn, yc⟩ := y
 have e1 : xi = d.id := hx.id
 have e2 : xo = d.o := hx.o
 have e3 : xn = d.away.length := hx.n
 have e4 : yi = d.id := hy.id
 have e5 : yo = d.o := hy.o
 have e6 : yn = d.away.length := hy.n
 have HX := Lib.hid (show ElP ES P w xA xc d.away from hx.away)
 have HY := Lib.hid (show ElP ES P' w yA yc d.away from hy.away)
 subst e1 e2 e3 e4 e5 e6
 clear hx hy
 go_enter Try.func72, Try.ntmps72
 go_wp2_with fail
 refine gen_calls fun w1 hw1 => ?_
 have HB := Lib.hid (show Below w.heap.size w w1 from by rw [hw1]; exact bl_alloc _ (below_alloc _ _))
 clear hw1
 refine ret_below (equalT_any xA yA d.away d.away xc yc w1 (HX.out.below HB.out) (HY.out.below HB.out) hl) fun w2 hb => ?_
 rw [sameT_self]
 have HB2 := Lib.hid (below_trans HB.out hb)
 clear hb
 go_wp2_with fail
 go_ret
 exact RetB.bool rfl HB2.out
set_option maxRecDepth 100000 in
set_option maxHeartbeats 2000000 in
theorem equalFn_any {P P' : Nat → Prop} (A A' : Option Addr) (C : List CouD) (c c' : Nat) (w : World) (hC : CousP P w A c C) (hC' : CousP P' w A' c' C) (hl : C.length ≤ 100000) (ha : ∀ k, k < C.length → (cAt C k).away.length ≤ 100000) :
  Calls Try.prog 71 #[.slice A C.length c, .slice A' C.length c', .func (.func 72) #[] #[]] w (RetB (.bool true) w) := by
 have HC := Lib.hid hC
 have HC2 := Lib.hid hC'
 have HA := Lib.hid ha
 clear hC hC' ha
 go_enter Try.func71, Try.ntmps71
 go_wp2_with fail
 go_loopw [17] (fun i wr => ∃ k : Nat, k ≤ C.length ∧ i = .int .i64 k ∧ Below w.heap.size w wr) (fun i _ => C.length - (intOf i).toNat)
 case atStart => exact ⟨0, Nat.zero_le _, rfl, Below.refl _ _⟩
 case round =>
  obtain ⟨k, hk, rfl, hbr⟩ := hrel
  have HBR := Lib.hid hbr
  by_cases hlt : k < C.length
  ·
   obtain ⟨b, off, x, rfl, hbl, -, c0, c1, c2, hx⟩ := (HC.out.below hbr).elem hlt
   obtain ⟨b', off', y, rfl, hbl', -, d0, d1, d2, hy⟩ := (HC2.out.below hbr).elem hlt
   have hk0 : (0 : Int) ≤ (k : Int) := by omega
   have hkl : (k : Int) < (C.length : Int) := by omega
   have hal := HA.out k hlt
   have HX := Lib.hid hx
   have HY := Lib.hid hy
   clear hx hy hbr
   generalize cAt C k = d at *
   go_wp2_with fail
   refine gen_calls fun w1 hw1 => ?_
   have HB := Lib.hid (show Below wr.heap.size wr w1 from by rw [hw1]; exact bl_alloc _ (below_alloc _ _))
   clear hw1 c0 c1 c2 d0 d1 d2
   refine ret_below (same1_any x y d w1 (HX.out.keep (Kpt.below HB.out)) (HY.out.keep (Kpt.below HB.out)) hal) fun w2 hb => ?_
   have HBF := Lib.hid (below_trans HBR.out (below_trans HB.out hb))
   clear hb
   go_wp2_with fail
   go_roundw
   case rel => exact ⟨k + 1, by omega, by go_num, HBF.out⟩
   case measure => simp [intOf]; omega
  ·
   have hkl : ¬ (k : Int) < (C.length : Int) := by omega
   go_wp2_with fail
   go_ret
   exact RetB.bool rfl HBR.out
set_option maxRecDepth 100000 in
set_option maxHeartbeats 2000000 in
theorem sameD_any {P P' : Nat → Prop} (u v : Value) (D : DeskD) (w : World) (hD : DeskR P w u D) (hE : DeskR P' w v D) (sD : DeskS D) :
  Calls Try.prog 63 #[u, v] w (RetB (.bool true) w) := by
 obtain ⟨A, ca, B, cb, rfl, h1, h2⟩ := hD
 obtain ⟨A', ca', B', cb', rfl, h3, h4⟩ := hE
 have H1 := Lib.hid h1
 have H2 := Lib.hid h2
 have H3 := Lib.hid h3
 have H4 := Lib.hid h4
 have HS := Lib.hid sD
 clear h1 h2 h3 h4 sD
 go_enter Try.func63, Try.ntmps63
 go_wp2_with fail
 refine gen_calls fun w1 hw1 => ?_
 have HB := Lib.hid (show Below w.heap.size w w1 from by rw [hw1]; exact bl_alloc _ (below_alloc _ _))
 have HD1 := Lib.hid (show DeskCell w1 w.heap.size (.slice A D.cs.length ca) (.slice B D.ks.length cb) from by rw [hw1]; exact (DeskCell.new _ _ rfl).below (below_alloc _ _))
 have HD2 := Lib.hid (show DeskCell w1 (w.heap.size + 1) (.slice A' D.cs.length ca') (.slice B' D.ks.length cb') from by rw [hw1]; exact DeskCell.new _ _ (by simp))
 clear hw1
 refine ret_below (equalK_any B B' D.ks cb cb' w1 (H2.out.below HB.out) (H4.out.below HB.out) (by have := HS.out.lk; omega)) fun w2 hb => ?_
 replace HB := Lib.hid (below_trans HB.out hb)
 have d0 := (HD1.out.below hb).c0
 have e0 := (HD2.out.below hb).c0
 have l0 := (HD1.out.below hb).lt
 have l1 := (HD2.out.below hb).lt
 clear hb
 go_wp2_with fail
 refine ret_below (equalFn_any A A' D.cs ca ca' w2 (H1.out.below HB.out) (H3.out.below HB.out) (by have := HS.out.lc; omega) (fun k hk => by have := (HS.out.co k hk).2.1; omega)) fun w3 hb => ?_
 replace HB := Lib.hid (below_trans HB.out hb)
 clear hb d0 e0 l0 l1
 go_wp2_with fail
 go_ret
 exact RetB.bool rfl HB.out

/-! ### Two variables made and filled in one statement -/
abbrev cou0 : Array Value := #[.int .i64 0, .string ⟨#[]⟩, .slice none 0 0]
def CouB (w : World) (n : Nat) (cs : Array Value) : Prop := w.heap[n]? = some (.cells cs 45 (0, 0))
theorem CouB.below {w w' : World} {x : Nat} {cs : Array Value} (h : CouB w x cs) (hb : Below w.heap.size w w') : CouB w' x cs := (hb.block x (blk_ltE h)).trans h
theorem al_cou (w : World) : (Instr.alloc 45 true (.tuple #[])).run Try.prog w = .ok (.pointer (some ⟨w.heap.size, 0, none⟩)) (w.alloc (.cells cou0 45)) := by
 go_simp
theorem st_cou {w : World} {x : Nat} (h : CouB w x cou0) (id : Int) (o : ByteArray) (A : Option Addr) (n c : Nat) : ∃ w', (Instr.storeAt 45 (.pointer (some ⟨x, 0, none⟩)) (.agg #[.int .i64 id, .string o, .slice A n c])).run Try.prog w = .ok () w' ∧ CouB w' x #[.int .i64 id, .string o, .slice A n c] ∧ w'.heap.size = w.heap.size ∧ (∀ k, k ≠ x → w'.heap[k]? = w.heap[k]?) ∧ w.grownBy w' (some x) := by
 have h0 : w.cell? ⟨x, 0, none⟩ = some (.int .i64 0) := by rw [cell_of_row _ _ 0 _ _ (0, 0) h]; rfl
 have h1 : w.cell? ⟨x, 1, none⟩ = some (.string ⟨#[]⟩) := by rw [cell_of_row _ _ 1 _ _ (0, 0) h]; rfl
 have h2 : w.cell? ⟨x, 2, none⟩ = some (.slice none 0 0) := by rw [cell_of_row _ _ 2 _ _ (0, 0) h]; rfl
 have f0 : w.frozen? ⟨x, 0, none⟩ = false := by unfold CouB at h; simp [World.frozen?, h]
 have f1 : w.frozen? ⟨x, 1, none⟩ = false := by unfold CouB at h; simp [World.frozen?, h]
 have f2 : w.frozen? ⟨x, 2, none⟩ = false := by unfold CouB at h; simp [World.frozen?, h]
 have hk : ∀ k, k ≠ x → (((w.setCell ⟨x, 0, none⟩ (.int .i64 id)).setCell ⟨x, 1, none⟩ (.string o)).setCell ⟨x, 2, none⟩ (.slice A n c)).heap[k]? = w.heap[k]? := fun k hk => (Below.heap_setCell _ _ _ k hk).trans ((Below.heap_setCell _ _ _ k hk).trans (Below.heap_setCell _ _ _ k hk))
 refine ⟨((w.setCell ⟨x, 0, none⟩ (.int .i64 id)).setCell ⟨x, 1, none⟩ (.string o)).setCell ⟨x, 2, none⟩ (.slice A n c), by go_simp, ?_, by simp [World.setCell], hk, ⟨rfl, rfl, rfl, by simp [World.setCell], fun k _ hne => hk k (fun e => hne (by rw [e]))⟩⟩
 unfold CouB at h ⊢; simp [World.setCell, Array.getElem?_modify, h]
structure TwJ (W0 : World) (a1 a2 s1 s2 : Nat) (C1 C2 : Array Value) (V : Nat → Value) (L : Nat → Bool) (w : World) : Prop where
 b : Below W0.heap.size W0 w
 p1 : L s1 = true → L a1 = true
 p2 : L s2 = true → L a2 = true
 v1 : L a1 = true → ∃ n, V a1 = .pointer (some ⟨n, 0, none⟩) ∧ W0.heap.size ≤ n ∧ n < w.heap.size ∧ (L s1 = false → CouB w n cou0) ∧ (L s1 = true → CouB w n C1) ∧ (L a2 = true → V a2 ≠ .pointer (some ⟨n, 0, none⟩))
 v2 : L a2 = true → ∃ n, V a2 = .pointer (some ⟨n, 0, none⟩) ∧ W0.heap.size ≤ n ∧ n < w.heap.size ∧ (L s2 = false → CouB w n cou0) ∧ (L s2 = true → CouB w n C2) ∧ (L a1 = true → V a1 ≠ .pointer (some ⟨n, 0, none⟩))
section
variable {W0 w w' : World} {a1 a2 s1 s2 : Nat} {C1 C2 : Array Value} {V : Nat → Value} {L : Nat → Bool}
theorem TwJ.swap (h : TwJ W0 a1 a2 s1 s2 C1 C2 V L w) : TwJ W0 a2 a1 s2 s1 C2 C1 V L w := ⟨h.b, h.p2, h.p1, h.v2, h.v1⟩
theorem TwJ.start (V : Nat → Value) : TwJ W0 a1 a2 s1 s2 C1 C2 V (fun _ => false) W0.drew :=
 ⟨Below.drew (Below.refl _ _), fun e => (by cases e), fun e => (by cases e), fun e => (by cases e), fun e => (by cases e)⟩
theorem TwJ.mv (h : TwJ W0 a1 a2 s1 s2 C1 C2 V L w) (i : Nat) (hi : a1 ≠ i ∧ a2 ≠ i ∧ s1 ≠ i ∧ s2 ≠ i) {v : Value} : TwJ W0 a1 a2 s1 s2 C1 C2 (updV V i v) (upd L i) w := by
 obtain ⟨h1, h2, h3, h4⟩ := hi
 refine ⟨h.b, ?_, ?_, ?_, ?_⟩
 ·
  rw [upd_other _ h1, upd_other _ h3]; exact h.p1
 ·
  rw [upd_other _ h2, upd_other _ h4]; exact h.p2
 ·
  rw [upd_other _ h1, upd_other _ h2, upd_other _ h3, updV_other _ _ h1, updV_other _ _ h2]; exact h.v1
 ·
  rw [upd_other _ h1, upd_other _ h2, upd_other _ h4, updV_other _ _ h1, updV_other _ _ h2]; exact h.v2
theorem TwJ.al1 (h : TwJ W0 a1 a2 s1 s2 C1 C2 V L w) (hn : a1 ≠ a2 ∧ a1 ≠ s1 ∧ a1 ≠ s2) (q : L a1 = false) : TwJ W0 a1 a2 s1 s2 C1 C2 (updV V a1 (.pointer (some ⟨w.heap.size, 0, none⟩))) (upd L a1) (w.alloc (.cells cou0 45)) := by
 have hb := below_alloc w (.cells cou0 45)
 have qs : L s1 = false := by
  cases e : L s1 with
  | false => rfl
  | true => have := h.p1 e; rw [q] at this; cases this
 obtain ⟨h2, h3, h4⟩ := hn
 refine ⟨below_trans h.b (hb.mono (Nat.le_refl _)), ?_, ?_, ?_, ?_⟩
 ·
  rw [upd_same]; exact fun _ => rfl
 ·
  rw [upd_other _ h2.symm, upd_other _ h4.symm]; exact h.p2
 ·
  rw [upd_same, upd_other _ h3.symm, upd_other _ h2.symm, updV_same, updV_other _ _ h2.symm]
  intro _
  refine ⟨_, rfl, h.b.size, by simp, fun _ => heap_alloc_new w _, fun e => (by rw [qs] at e; cases e), fun e e2 => ?_⟩
  obtain ⟨n, r1, -, r3, -⟩ := h.v2 e
  rw [r1] at e2
  injection e2 with e2; injection e2 with e2; injection e2 with e2
  omega
 ·
  rw [upd_same, upd_other _ h2.symm, upd_other _ h4.symm, updV_same, updV_other _ _ h2.symm]
  intro e
  obtain ⟨n, r1, r2, r3, r4, r5, -⟩ := h.v2 e
  refine ⟨n, r1, r2, Nat.lt_of_lt_of_le r3 hb.size, fun e => (r4 e).below hb, fun e => (r5 e).below hb, fun _ e2 => ?_⟩
  injection e2 with e2; injection e2 with e2; injection e2 with e2
  omega
theorem TwJ.al2 (h : TwJ W0 a1 a2 s1 s2 C1 C2 V L w) (hn : a2 ≠ a1 ∧ a2 ≠ s2 ∧ a2 ≠ s1) (q : L a2 = false) : TwJ W0 a1 a2 s1 s2 C1 C2 (updV V a2 (.pointer (some ⟨w.heap.size, 0, none⟩))) (upd L a2) (w.alloc (.cells cou0 45)) := (h.swap.al1 hn q).swap
theorem TwJ.st1 {id : Int} {o : ByteArray} {A : Option Addr} {n c : Nat} (h : TwJ W0 a1 a2 s1 s2 #[.int .i64 id, .string o, .slice A n c] C2 V L w) (hn : s1 ≠ a1 ∧ s1 ≠ a2 ∧ s1 ≠ s2) (qa : L a1 = true) (qs : L s1 = false) :
  ∃ w', (Instr.storeAt 45 (V a1) (.agg #[.int .i64 id, .string o, .slice A n c])).run Try.prog w = .ok () w' ∧ ∀ v, TwJ W0 a1 a2 s1 s2 #[.int .i64 id, .string o, .slice A n c] C2 (updV V s1 v) (upd L s1) w' := by
 obtain ⟨m, r1, r2, r3, r4, -, r6⟩ := h.v1 qa
 obtain ⟨w', t1, t2, t3, t4, t5⟩ := st_cou (r4 qs) id o A n c
 rw [r1]
 refine ⟨w', t1, fun v => ?_⟩
 obtain ⟨h1, h2, h3⟩ := hn
 refine ⟨h.b.trans ((Below.refl W0.heap.size w).grown t5 h.b.size (fun j hj => by injection hj with hj; omega)), ?_, ?_, ?_, ?_⟩
 ·
  rw [upd_other _ h1.symm]; exact fun _ => qa
 ·
  rw [upd_other _ h2.symm, upd_other _ h3.symm]; exact h.p2
 ·
  rw [upd_other _ h1.symm, upd_same, upd_other _ h2.symm, updV_other _ _ h1.symm, updV_other _ _ h2.symm]
  exact fun _ => ⟨m, r1, r2, by omega, fun e => (by cases e), fun _ => t2, r6⟩
 ·
  rw [upd_other _ h1.symm, upd_other _ h2.symm, upd_other _ h3.symm, updV_other _ _ h1.symm, updV_other _ _ h2.symm]
  intro e
  obtain ⟨k, u1, u2, u3, u4, u5, u6⟩ := h.v2 e
  have hkm : k ≠ m := fun e2 => u6 qa (by rw [r1, e2])
  exact ⟨k, u1, u2, by omega, fun e => (t4 k hkm).trans (u4 e), fun e => (t4 k hkm).trans (u5 e), u6⟩
theorem TwJ.st2 {id : Int} {o : ByteArray} {A : Option Addr} {n c : Nat} (h : TwJ W0 a1 a2 s1 s2 C1 #[.int .i64 id, .string o, .slice A n c] V L w) (hn : s2 ≠ a2 ∧ s2 ≠ a1 ∧ s2 ≠ s1) (qa : L a2 = true) (qs : L s2 = false) :
  ∃ w', (Instr.storeAt 45 (V a2) (.agg #[.int .i64 id, .string o, .slice A n c])).run Try.prog w = .ok () w' ∧ ∀ v, TwJ W0 a1 a2 s1 s2 C1 #[.int .i64 id, .string o, .slice A n c] (updV V s2 v) (upd L s2) w' := by
 obtain ⟨w', t1, t2⟩ := h.swap.st1 hn qa qs
 exact ⟨w', t1, fun v => (t2 v).swap⟩
theorem TwJ.fin (h : TwJ W0 a1 a2 s1 s2 C1 C2 V L w) (q1 : L s1 = true) (q2 : L s2 = true) : ∃ n1 n2, V a1 = .pointer (some ⟨n1, 0, none⟩) ∧ V a2 = .pointer (some ⟨n2, 0, none⟩) ∧ CouB w n1 C1 ∧ CouB w n2 C2 := by
 obtain ⟨n1, e1, -, -, -, r1, -⟩ := h.v1 (h.p1 q1)
 obtain ⟨n2, e2, -, -, -, r2, -⟩ := h.v2 (h.p2 q2)
 exact ⟨n1, n2, e1, e2, r1 q1, r2 q2⟩
end
set_option maxRecDepth 100000 in
set_option maxHeartbeats 4000000 in
theorem refSameD_any {P P' : Nat → Prop} (u v : Value) (D : DeskD) (w : World) (hD : DeskR P w u D) (hE : DeskR P' w v D) (sD : DeskS D) :
  Calls Try.prog 20 #[u, v] w (RetB (.bool true) w) := by
 obtain ⟨A, ca, B, cb, rfl, h1, h2⟩ := hD
 obtain ⟨A', ca', B', cb', rfl, h3, h4⟩ := hE
 have H1 := Lib.hid h1
 have H2 := Lib.hid h2
 have H3 := Lib.hid h3
 have H4 := Lib.hid h4
 have HS := Lib.hid sD
 clear h1 h2 h3 h4 sD
 go_enter Try.func20, Try.ntmps20
 go_wp2_with fail
 refine gen_calls fun w1 hw1 => ?_
 have HB := Lib.hid (show Below w.heap.size w w1 from by rw [hw1]; exact bl_alloc _ (below_alloc _ _))
 have HD1 := Lib.hid (show DeskCell w1 w.heap.size (.slice A D.cs.length ca) (.slice B D.ks.length cb) from by rw [hw1]; exact (DeskCell.new _ _ rfl).below (below_alloc _ _))
 have HD2 := Lib.hid (show DeskCell w1 (w.heap.size + 1) (.slice A' D.cs.length ca') (.slice B' D.ks.length cb') from by rw [hw1]; exact DeskCell.new _ _ (by simp))
 clear hw1
 generalize hbx : w.heap.size = bx at *
 have HBX := Lib.hid hbx
 clear hbx
 refine ret_below (sameCases_any B B' D.ks cb cb' w1 (H2.out.below (by rw [HBX.out]; exact HB.out)) (H4.out.below (by rw [HBX.out]; exact HB.out)) (by have := HS.out.lk; omega)) fun w2 hb => ?_
 replace HB := Lib.hid (show Below w.heap.size w w2 from by rw [HBX.out]; exact HB.out.trans (hb.mono (by have := HD1.out.lt; omega)))
 replace HD1 := Lib.hid (HD1.out.below hb)
 replace HD2 := Lib.hid (HD2.out.below hb)
 clear hb
 go_wp2_with fail
 go_loopw [5] (fun i wr => ∃ k : Nat, k ≤ D.cs.length ∧ i = .int .i64 k ∧ Below w2.heap.size w2 wr) (fun i _ => D.cs.length - (intOf i).toNat)
 case atStart => exact ⟨0, Nat.zero_le _, rfl, Below.refl _ _⟩
 case round =>
  obtain ⟨k, hk, rfl, hbr⟩ := hrel
  have HBR := Lib.hid hbr
  have HBW := Lib.hid (below_trans HB.out hbr)
  replace HD1 := Lib.hid (HD1.out.below hbr)
  replace HD2 := Lib.hid (HD2.out.below hbr)
  have d0 := HD1.out.c0
  have l0 := HD1.out.lt
  clear hbr
  by_cases hlt : k < D.cs.length
  ·
   obtain ⟨b, off, x, rfl, hbl, -, c0, c1, c2, hx⟩ := (H1.out.below HBW.out).elem hlt
   obtain ⟨b', off', y, rfl, hbl', -, y0, y1, y2, hy⟩ := (H3.out.below HBW.out).elem hlt
   obtain ⟨xi, xo, xA, xn, xc⟩ := x
   obtain ⟨yi, yo, yA, yn, yc⟩ := y
   have e1 : xi = (cAt D.cs k).id := hx.id
   have e2 : xo = (cAt D.cs k).o := hx.o
   have e3 : xn = (cAt D.cs k).away.length := hx.n
   have e4 : yi = (cAt D.cs k).id := hy.id
   have e5 : yo = (cAt D.cs k).o := hy.o
   have e6 : yn = (cAt D.cs k).away.length := hy.n
   have HX := Lib.hid (show ElP ES P wr xA xc (cAt D.cs k).away from hx.away)
   have HY := Lib.hid (show ElP ES P' wr yA yc (cAt D.cs k).away from hy.away)
   have hal : (cAt D.cs k).away.length ≤ 100000 := by have := (HS.out.co k hlt).2.1; omega
   subst e1 e2 e3 e4 e5 e6
   have hk0 : (0 : Int) ≤ (k : Int) := by omega
   have hkl : (k : Int) < (D.cs.length : Int) := by omega
   have hk9 : (k : Int) ≤ 1000 := by have := HS.out.lc; omega
   have X0 := Lib.hid c0
   have X1 := Lib.hid c1
   have X2 := Lib.hid c2
   have Y0 := Lib.hid y0
   have Y1 := Lib.hid y1
   have Y2 := Lib.hid y2
   have LB := Lib.hid hbl
   have LB2 := Lib.hid hbl'
   clear hx hy c0 c1 c2 y0 y1 y2 hbl hbl'
   generalize cAt D.cs k = d at *
   go_upto_region 6 with fail
   clear d0 l0
   refine wp_region_J2 (GI (R := fun _ _ => True) [Pr.eq (.pointer (some ⟨bx, 0, none⟩)), Pr.eq (.slice (some ⟨b, off, none⟩) D.cs.length ca), Pr.eq (.int .i64 (k : Int)), Pr.eq (.pointer (some ⟨b, off + k * 3, none⟩)), Pr.eq (.agg #[.int .i64 d.id, .string d.o, .slice xA d.away.length xc]), Pr.eq (.pointer (some ⟨bx + 1, 0, none⟩)), Pr.eq (.slice (some ⟨b', off', none⟩) D.cs.length ca'), Pr.eq (.int .i64 (k : Int)), Pr.eq (.pointer (some ⟨b', off' + k * 3, none⟩)), Pr.eq (.agg #[.int .i64 d.id, .string d.o, .slice yA d.away.length yc]), Pr.any, Pr.any, Pr.any, Pr.any] (TwJ wr 10 11 12 13 #[.int .i64 d.id, .string d.o, .slice xA d.away.length xc] #[.int .i64 d.id, .string d.o, .slice yA d.away.length yc])) (by kernel_rfl) (by kernel_rfl) (by kernel_rfl) ?_ ?_ ?_
   case refine_1 => exact fun V => GI.start (TwJ.start V)
   case refine_2 =>
    refine .cons (fun V Ld a W hLi hpre hR hI KK hK => ?_) ?_
    ·
     have o2 := (hR.old 2 (by kernel_rfl)).trans (show _ = Value.pointer (some ⟨bx, 0, none⟩) from rfl)
     exact J_fieldAddr rfl _ (.tmp 2) 0 rfl (by rw [o2]; go_simp) (hK _ _ (hI.put0 0 rfl rfl (hI.st.mv _ (by decide))))
    refine .cons (fun V Ld a W hLi hpre hR hI KK hK => ?_) ?_
    ·
     have f0 := hI.ef hR hpre 0 rfl rfl rfl (by kernel_rfl)
     have c0 := (HD1.out.below hI.st.b).c0
     exact J_load rfl _ (.tmp 30) rfl (by rw [f0]; go_simp) (hK _ _ (hI.put0 1 rfl rfl (hI.st.mv _ (by decide))))
    refine .cons (fun V Ld a W hLi hpre hR hI KK hK => ?_) ?_
    ·
     have o5 := (hR.old 5 (by kernel_rfl)).trans (show _ = Value.int .i64 (k : Int) from rfl)
     exact G_move rfl (.tmp 5) rfl o5 (hK _ _ (hI.put0 2 rfl rfl (hI.st.mv _ (by decide))))
    refine .cons (fun V Ld a W hLi hpre hR hI KK hK => ?_) ?_
    ·
     have f1 := hI.ef hR hpre 1 rfl rfl rfl (by kernel_rfl)
     have f2 := hI.ef hR hpre 2 rfl rfl rfl (by kernel_rfl)
     exact J_indexAddr rfl _ (.tmp 31) (.tmp 32) rfl (by rw [f1, f2]; go_simp <;> (intro h; omega)) (hK _ _ (hI.put0 3 rfl rfl (hI.st.mv _ (by decide))))
    refine .cons (fun V Ld a W hLi hpre hR hI KK hK => ?_) ?_
    ·
     have f3 := hI.ef hR hpre 3 rfl rfl rfl (by kernel_rfl)
     have x0 := (hI.st.b.cell LB.out).trans X0.out
     have x1 := (hI.st.b.cell LB.out).trans X1.out
     have x2 := (hI.st.b.cell LB.out).trans X2.out
     exact J_load rfl _ (.tmp 33) rfl (by rw [f3]; go_simp) (hK _ _ (hI.put0 4 rfl rfl (hI.st.mv _ (by decide))))
    refine .cons (fun V Ld a W hLi hpre hR hI KK hK => ?_) ?_
    ·
     have o3 := (hR.old 3 (by kernel_rfl)).trans (show _ = Value.pointer (some ⟨bx + 1, 0, none⟩) from rfl)
     exact J_fieldAddr rfl _ (.tmp 3) 0 rfl (by rw [o3]; go_simp) (hK _ _ (hI.put0 5 rfl rfl (hI.st.mv _ (by decide))))
    refine .cons (fun V Ld a W hLi hpre hR hI KK hK => ?_) ?_
    ·
     have f5 := hI.ef hR hpre 5 rfl rfl rfl (by kernel_rfl)
     have c0 := (HD2.out.below hI.st.b).c0
     exact J_load rfl _ (.tmp 35) rfl (by rw [f5]; go_simp) (hK _ _ (hI.put0 6 rfl rfl (hI.st.mv _ (by decide))))
    refine .cons (fun V Ld a W hLi hpre hR hI KK hK => ?_) ?_
    ·
     have o5 := (hR.old 5 (by kernel_rfl)).trans (show _ = Value.int .i64 (k : Int) from rfl)
     exact G_move rfl (.tmp 5) rfl o5 (hK _ _ (hI.put0 7 rfl rfl (hI.st.mv _ (by decide))))
    refine .cons (fun V Ld a W hLi hpre hR hI KK hK => ?_) ?_
    ·
     have f6 := hI.ef hR hpre 6 rfl rfl rfl (by kernel_rfl)
     have f7 := hI.ef hR hpre 7 rfl rfl rfl (by kernel_rfl)
     exact J_indexAddr rfl _ (.tmp 36) (.tmp 37) rfl (by rw [f6, f7]; go_simp <;> (intro h; omega)) (hK _ _ (hI.put0 8 rfl rfl (hI.st.mv _ (by decide))))
    refine .cons (fun V Ld a W hLi hpre hR hI KK hK => ?_) ?_
    ·
     have f8 := hI.ef hR hpre 8 rfl rfl rfl (by kernel_rfl)
     have x0 := (hI.st.b.cell LB2.out).trans Y0.out
     have x1 := (hI.st.b.cell LB2.out).trans Y1.out
     have x2 := (hI.st.b.cell LB2.out).trans Y2.out
     exact J_load rfl _ (.tmp 38) rfl (by rw [f8]; go_simp) (hK _ _ (hI.put0 9 rfl rfl (hI.st.mv _ (by decide))))
    refine .cons (fun V Ld a W hLi hpre hR hI KK hK => ?_) ?_
    ·
     exact J_alloc rfl _ rfl (al_cou W) (hK _ _ (hI.put trivial 10 rfl trivial (hI.st.al1 (by decide) hLi)))
    refine .cons (fun V Ld a W hLi hpre hR hI KK hK => ?_) ?_
    ·
     exact J_alloc rfl _ rfl (al_cou W) (hK _ _ (hI.put trivial 11 rfl trivial (hI.st.al2 (by decide) hLi)))
    refine .cons (fun V Ld a W hLi hpre hR hI KK hK => ?_) ?_
    ·
     have p10 := pm hpre 10 (by kernel_rfl)
     have f4 := hI.ef hR hpre 4 rfl rfl rfl (by kernel_rfl)
     obtain ⟨w', hr, hn⟩ := hI.st.st1 (by decide) p10 hLi
     exact J_store rfl _ (.tmp 6) (.tmp 34) rfl (by rw [hR.ev 10 rfl rfl p10, f4]; exact hr) (hK _ _ (hI.put trivial 12 rfl trivial (hn _)))
    refine .cons (fun V Ld a W hLi hpre hR hI KK hK => ?_) trivial
    ·
     have p11 := pm hpre 11 (by kernel_rfl)
     have f9 := hI.ef hR hpre 9 rfl rfl rfl (by kernel_rfl)
     obtain ⟨w', hr, hn⟩ := hI.st.st2 (by decide) p11 hLi
     exact J_store rfl _ (.tmp 7) (.tmp 39) rfl (by rw [hR.ev 11 rfl rfl p11, f9]; exact hr) (hK _ _ (hI.put trivial 13 rfl trivial (hn _)))
   case refine_3 =>
    intro V Ld w9 hLd hI
    obtain ⟨n1, n2, e1, e2, q1, q2⟩ := hI.st.fin (hLd 12 (by decide)) (hLd 13 (by decide))
    have hb9 := hI.st.b
    clear hI hLd
    simp only [finL, putL, Act.put, Nat.reduceAdd]
    rw [e1, e2]
    clear e1 e2
    generalize V 0 = v0, V 1 = v1
    generalize V 2 = v2, V 3 = v3
    generalize V 4 = v4, V 5 = v5
    generalize V 6 = v6, V 7 = v7
    generalize V 8 = v8, V 9 = v9
    clear V
    simp only [List.setIfInBounds_toArray, List.set_cons_succ, List.set_cons_zero]
    have u0 : w9.cell? ⟨n1, 0, none⟩ = some (.int .i64 d.id) := by rw [cell_of_row _ _ 0 _ _ (0, 0) q1]; rfl
    have u1 : w9.cell? ⟨n1, 1, none⟩ = some (.string d.o) := by rw [cell_of_row _ _ 1 _ _ (0, 0) q1]; rfl
    have u2 : w9.cell? ⟨n1, 2, none⟩ = some (.slice xA d.away.length xc) := by rw [cell_of_row _ _ 2 _ _ (0, 0) q1]; rfl
    have t0 : w9.cell? ⟨n2, 0, none⟩ = some (.int .i64 d.id) := by rw [cell_of_row _ _ 0 _ _ (0, 0) q2]; rfl
    have t1 : w9.cell? ⟨n2, 1, none⟩ = some (.string d.o) := by rw [cell_of_row _ _ 1 _ _ (0, 0) q2]; rfl
    have t2 : w9.cell? ⟨n2, 2, none⟩ = some (.slice yA d.away.length yc) := by rw [cell_of_row _ _ 2 _ _ (0, 0) q2]; rfl
    have r1 : (d.id != d.id) = false := by simp
    have r2 : (d.o.toList != d.o.toList) = false := by simp
    have lq1 := blk_ltE q1
    have lq2 := blk_ltE q2
    have HB9 := Lib.hid hb9
    clear q1 q2 hb9
    go_wp2_with fail
    refine ret_below (sameTexts_any xA yA d.away d.away xc yc w9 (HX.out.below HB9.out) (HY.out.below HB9.out) hal) fun w10 hb10 => ?_
    rw [sameT_self]
    have HB10 := Lib.hid (below_trans HBR.out (below_trans HB9.out hb10))
    clear hb10 u0 u1 u2 t0 t1 t2 lq1 lq2
    go_wp2_with fail
    go_roundw
    case rel => exact ⟨k + 1, by omega, by go_num, HB10.out⟩
    case measure => simp [intOf]; omega
  ·
   have hkl : ¬ (k : Int) < (D.cs.length : Int) := by omega
   go_wp2_with fail
   go_ret
   exact RetB.bool rfl HBW.out
set_option maxRecDepth 100000 in
set_option maxHeartbeats 2000000 in
theorem lawSame_any {P P' : Nat → Prop} (u v : Value) (e : Int) (D : DeskD) (w : World) (hD : DeskR P w u D) (hE : DeskR P' w v D) (sD : DeskS D) :
  Calls Try.prog 45 #[u, v, .int .i64 e, .int .i64 e] w (RetB (.bool true) w) := by
 have HD := Lib.hid hD
 have HE := Lib.hid hE
 have HS := Lib.hid sD
 obtain ⟨A, ca, B, cb, rfl, h1, h2⟩ := hD
 obtain ⟨A', ca', B', cb', rfl, h3, h4⟩ := hE
 clear h1 h2 h3 h4 sD
 go_enter Try.func45, Try.ntmps45
 go_wp2_with fail
 refine gen_calls fun w1 hw1 => ?_
 have HB := Lib.hid (show Below w.heap.size w w1 from by rw [hw1]; exact bl_alloc _ (below_alloc _ _))
 have HD1 := Lib.hid (show DeskCell w1 w.heap.size (.slice A D.cs.length ca) (.slice B D.ks.length cb) from by rw [hw1]; exact (DeskCell.new _ _ rfl).below (below_alloc _ _))
 have HD2 := Lib.hid (show DeskCell w1 (w.heap.size + 1) (.slice A' D.cs.length ca') (.slice B' D.ks.length cb') from by rw [hw1]; exact DeskCell.new _ _ (by simp))
 clear hw1
 refine ret_below (refSameD_any _ _ D w1 (HD.out.below HB.out) (HE.out.below HB.out) HS.out) fun w2 hb => ?_
 replace HB := Lib.hid (below_trans HB.out hb)
 have d0 := (HD1.out.below hb).c0
 have d1 := (HD1.out.below hb).c1
 have e0 := (HD2.out.below hb).c0
 have e1 := (HD2.out.below hb).c1
 have l0 := (HD1.out.below hb).lt
 have l1 := (HD2.out.below hb).lt
 clear hb
 go_wp2_with fail
 refine ret_below (sameD_any _ _ D w2 (HD.out.below HB.out) (HE.out.below HB.out) HS.out) fun w3 hb => ?_
 replace HB := Lib.hid (below_trans HB.out hb)
 clear hb d0 d1 e0 e1 l0 l1
 go_wp2_with fail
 go_ret
 exact RetB.bool rfl HB.out
end Go.Proofs.Ytjckpammcgeloaa
namespace Go.Proofs.Ytjckpammcgeloaa
open Go.RowKit

theorem enter_chk (args : Array Value) (w : World) : (callFunc 18 args).run Try.prog w = .ok (.enter 18 args) w :=
 Go.MuLone.run_callFunc_enter Try.func18 (by kernel_rfl) rfl args w
theorem enter_rchk (args : Array Value) (w : World) : (callFunc 19 args).run Try.prog w = .ok (.enter 19 args) w :=
 Go.MuLone.run_callFunc_enter Try.func19 (by kernel_rfl) rfl args w
theorem enter_same (args : Array Value) (w : World) : (callFunc 45 args).run Try.prog w = .ok (.enter 45 args) w :=
 Go.MuLone.run_callFunc_enter Try.func45 (by kernel_rfl) rfl args w
theorem enter_un (args : Array Value) (w : World) : (callFunc 17 args).run Try.prog w = .ok (.enter 17 args) w :=
 Go.MuLone.run_callFunc_enter Try.func17 (by kernel_rfl) rfl args w
theorem enter_sc (args : Array Value) (w : World) : (callFunc 40 args).run Try.prog w = .ok (.enter 40 args) w :=
 Go.MuLone.run_callFunc_enter Try.func40 (by kernel_rfl) rfl args w
def elsP (L : List CaseD) : Pr Bl := ⟨fun v w => ∃ A c, v = .slice A L.length c ∧ ElP EK (fun _ => True) w A c L, fun _ _ _ ⟨A, c, e, h⟩ hb => ⟨A, c, e, h.below hb⟩⟩
theorem elsP_of {w : World} {base : Nat} {v : Value} {L : List CaseD} (h : ElOwn EK 37 w base v L) : (elsP L).p v w := by
 obtain ⟨A, c, e, h⟩ := h.toP
 exact ⟨A, c, e, h.mono fun _ _ _ => trivial⟩
theorem ld_case {w : World} {x : Nat} {d : CaseD} (h : CaseC w x d) : (Instr.loadAt 37 (.pointer (some ⟨x, 0, none⟩))).run Try.prog w = .ok (caseV d) w := by
 have h0 := h.c0
 have h1 := h.c1
 have h2 := h.c2
 have h3 := h.c3
 have h4 := h.c4
 go_simp
theorem giveD_small {D : DeskD} (h : DeskS D) (hk : D.ks.length ≤ 900) (r o : ByteArray) (t : Int) (hr : r.size ≤ maxLen) (ho : o.size ≤ maxLen) : DeskS (giveD D r o t) := by
 unfold giveD
 split
 ·
  refine ⟨h.lc, by simp; omega, h.co, fun k hk => ?_⟩
  simp only [List.length_append, List.length_singleton] at hk
  by_cases e : k < D.ks.length
  ·
   show (kAt (_ ++ _) k).r.size ≤ _ ∧ _
   rw [kAt_app1 e]; exact h.ca k e
  ·
   show (kAt (_ ++ _) k).r.size ≤ _ ∧ (kAt (_ ++ _) k).o.size ≤ _
   rw [kAt_app2 (by omega)]; exact ⟨hr, ho⟩
 ·
  exact h
theorem small_nil : DeskS ⟨[], []⟩ := ⟨by simp, by simp, fun k hk => absurd hk (by simp), fun k hk => absurd hk (by simp)⟩
theorem ackD_small {D : DeskD} (h : DeskS D) (id : Int) : DeskS (ackD D id) := by
 unfold ackD
 split
 ·
  refine ⟨h.lc, by simpa using h.lk, h.co, fun k hk => ?_⟩
  have hk : k < D.ks.length := by simpa using hk
  show (kAt (D.ks.set _ _) k).r.size ≤ _ ∧ (kAt (D.ks.set _ _) k).o.size ≤ _
  have hk2 := kAt_get (K := D.ks.set (unI D id).toNat (seenK (kAt D.ks (unI D id).toNat))) (k := k) (by simpa using hk)
  by_cases e : (unI D id).toNat = k
  ·
   rw [e] at hk2 ⊢
   rw [List.getElem?_set_self hk] at hk2
   injection hk2 with hk2
   rw [← hk2]; exact h.ca k hk
  ·
   rw [List.getElem?_set_ne e, kAt_get hk] at hk2
   injection hk2 with hk2
   rw [← hk2]; exact h.ca k hk
 ·
  exact small_nil
theorem lvD_small : ∀ (l : List CaseD) (O : DeskD), DeskS O → (∀ x ∈ l, x.r.size ≤ maxLen ∧ x.o.size ≤ maxLen) → O.ks.length + l.length ≤ 900 → DeskS (lvD l O)
 | [], O, h, _, _ => h
 | x :: l, O, h, hl, hn => by
  have h1 := hl x (List.mem_cons_self ..)
  refine lvD_small l _ (giveD_small h (by simp at hn; omega) _ _ _ h1.1 h1.2) (fun y hy => hl y (List.mem_cons_of_mem _ hy)) ?_
  have : (giveD O x.r x.o (lvT O x)).ks.length ≤ O.ks.length + 1 := by unfold giveD; split <;> simp
  simp at hn; omega
theorem leaveD_small {D : DeskD} (h : DeskS D) (id : Int) : DeskS (leaveD D id) := by
 unfold leaveD
 split
 ·
  rename_i he
  obtain ⟨hv, hf⟩ := leave_pos he
  have p := (leave_parts D.ks id).1
  have hlk := hv.lk
  refine lvD_small _ _ ((LvI.start h).small h (by omega)) (fun x hx => ?_) (by show (D.ks.filter _).length + _ ≤ _; omega)
  obtain ⟨i, hi, e⟩ := kAt_of (List.mem_filter.1 hx).1
  rw [← e]; exact h.ca i hi
 ·
  exact h
set_option maxRecDepth 100000 in
set_option maxHeartbeats 4000000 in
theorem agree_any {P : Nat → Prop} (v : Value) (r o : ByteArray) (t id : Int) (D : DeskD) (w : World) (hD : DeskR P w v D) (sD : DeskS D) (hk : D.ks.length ≤ 800) (hr : r.size ≤ maxLen) (ho : o.size ≤ maxLen) :
  Calls Try.prog 21 #[v, .string r, .string o, .int .i64 t, .int .i64 id] w (RetB (.bool true) w) := by
 have HD := Lib.hid hD
 have HS := Lib.hid sD
 have HR := Lib.hid hr
 have SG := Lib.hid (giveD_small sD (by omega) r o t hr ho)
 have SA := Lib.hid (ackD_small sD id)
 have SL := Lib.hid (leaveD_small sD id)
 have HUL := Lib.hid (show (unseenL D.ks id).length ≤ 100000 from Nat.le_trans (List.length_filter_le _ _) (by omega))
 have HKL := Lib.hid (show D.ks.length ≤ 10000 by omega)
 obtain ⟨A, ca, B, cb, rfl, h1, h2⟩ := hD
 clear h1 h2 sD hk hr ho
 go_enter Try.func21, Try.ntmps21
 go_wp2_with fail
 refine gen_calls fun w1 hw1 => ?_
 have HB := Lib.hid (show Below w.heap.size w w1 from by rw [hw1]; exact below_alloc _ _)
 have C0 := Lib.hid (show DeskCell w1 w.heap.size (.slice A D.cs.length ca) (.slice B D.ks.length cb) from by rw [hw1]; exact DeskCell.new _ _ rfl)
 clear hw1
 generalize hbx : w.heap.size = bx at *
 have HBX := Lib.hid hbx
 clear hbx
 replace HB := Lib.hid (show Below w.heap.size w w1 from by rw [HBX.out]; exact HB.out)
 generalize hge : giveE D r o t = ge at *
 generalize hgi : giveI D r o t = gi at *
 generalize hae : ackE D id = ae at *
 generalize hle : leaveE D id = le at *
 generalize hkx : ackK D id = kx at *
 have GE := Lib.hid hge
 have HGI := Lib.hid hgi
 have AE := Lib.hid hae
 have LE := Lib.hid hle
 have KX := Lib.hid hkx
 clear hge hgi hae hle hkx
 refine (give_any _ r o t D w1 (HD.out.below HB.out) HS.out HR.out).mono ?_
 rintro e v1 ⟨u1, x1, rfl, ho, hb⟩
 rw [HGI.out, GE.out]
 replace HB := Lib.hid (below_trans HB.out hb)
 replace C0 := Lib.hid (C0.out.below hb)
 obtain ⟨A1, ca1, B1, cb1, eu, ex⟩ := ho.forms
 have O1 := Lib.hid ho
 have EU1 := Lib.hid eu
 have EX1 := Lib.hid ex
 subst eu ex
 clear ho hb
 have c0 := C0.out.c0
 have c1 := C0.out.c1
 have l0 := C0.out.lt
 go_wp2_with fail
 refine gen_calls fun w2 hw => ?_
 have hb : Below v1.heap.size v1 w2 := by rw [hw]; exact below_alloc _ _
 have C1 := Lib.hid (show DeskCell w2 v1.heap.size (.slice A1 (giveD D r o t).cs.length ca1) (.slice B1 (giveD D r o t).ks.length cb1) from by rw [hw]; exact DeskCell.new _ _ rfl)
 replace HB := Lib.hid (below_trans HB.out hb)
 replace C0 := Lib.hid (C0.out.below hb)
 replace O1 := Lib.hid (O1.out.below hb)
 clear hw hb c0 c1 l0
 generalize v1.heap.size = n1 at *
 refine (refGive_any _ r o t D w2 (HD.out.below HB.out) HS.out).mono ?_
 rintro e v2 ⟨u2, x2, rfl, ho, hb⟩
 rw [HGI.out, GE.out]
 replace HB := Lib.hid (below_trans HB.out hb)
 replace C0 := Lib.hid (C0.out.below hb)
 replace C1 := Lib.hid (C1.out.below hb)
 replace O1 := Lib.hid (O1.out.below hb)
 obtain ⟨A2, ca2, B2, cb2, eu, ex⟩ := ho.forms
 have O2 := Lib.hid ho
 have EU2 := Lib.hid eu
 have EX2 := Lib.hid ex
 subst eu ex
 clear ho hb
 have c0 := C0.out.c0
 have c1 := C0.out.c1
 have l0 := C0.out.lt
 go_wp2_with fail
 refine gen_calls fun w3 hw => ?_
 have hb : Below v2.heap.size v2 w3 := by rw [hw]; exact below_alloc _ _
 have C2 := Lib.hid (show DeskCell w3 v2.heap.size (.slice A2 (giveD D r o t).cs.length ca2) (.slice B2 (giveD D r o t).ks.length cb2) from by rw [hw]; exact DeskCell.new _ _ rfl)
 replace HB := Lib.hid (below_trans HB.out hb)
 replace C0 := Lib.hid (C0.out.below hb)
 replace C1 := Lib.hid (C1.out.below hb)
 replace O1 := Lib.hid (O1.out.below hb)
 replace O2 := Lib.hid (O2.out.below hb)
 clear hw hb c0 c1 l0
 generalize v2.heap.size = n2 at *
 refine (ack_any _ id D w3 (HD.out.below HB.out) HS.out).mono ?_
 rintro e v3 ⟨u3, x3, rfl, ho, hb⟩
 rw [KX.out, AE.out]
 replace HB := Lib.hid (below_trans HB.out hb)
 replace C0 := Lib.hid (C0.out.below hb)
 replace C1 := Lib.hid (C1.out.below hb)
 replace C2 := Lib.hid (C2.out.below hb)
 replace O1 := Lib.hid (O1.out.below hb)
 replace O2 := Lib.hid (O2.out.below hb)
 obtain ⟨A3, ca3, B3, cb3, eu, ex⟩ := ho.forms
 have O3 := Lib.hid ho
 have EU3 := Lib.hid eu
 have EX3 := Lib.hid ex
 subst eu ex
 clear ho hb
 have c0 := C0.out.c0
 have c1 := C0.out.c1
 have l0 := C0.out.lt
 go_wp2_with fail
 refine gen_calls fun w4 hw => ?_
 have hb : Below v3.heap.size v3 w4 := by rw [hw]; exact bl_alloc _ (below_alloc _ _)
 have C3 := Lib.hid (show DeskCell w4 v3.heap.size (.slice A3 (ackD D id).cs.length ca3) (.slice B3 (ackD D id).ks.length cb3) from by rw [hw]; exact (DeskCell.new _ _ rfl).below (below_alloc _ _))
 have K3 := Lib.hid (show CaseC w4 (v3.heap.size + 1) kx from by rw [hw]; exact CaseC.new kx (by simp))
 replace HB := Lib.hid (below_trans HB.out hb)
 replace C0 := Lib.hid (C0.out.below hb)
 replace C1 := Lib.hid (C1.out.below hb)
 replace C2 := Lib.hid (C2.out.below hb)
 replace O1 := Lib.hid (O1.out.below hb)
 replace O2 := Lib.hid (O2.out.below hb)
 replace O3 := Lib.hid (O3.out.below hb)
 clear hw hb c0 c1 l0
 generalize v3.heap.size = n3 at *
 generalize n3 + 1 = k3 at *
 refine (refAck_any _ id D w4 (HD.out.below HB.out) HS.out).mono ?_
 rintro e v4 ⟨u4, x4, rfl, ho, hb⟩
 rw [KX.out, AE.out]
 replace HB := Lib.hid (below_trans HB.out hb)
 replace C0 := Lib.hid (C0.out.below hb)
 replace C1 := Lib.hid (C1.out.below hb)
 replace C2 := Lib.hid (C2.out.below hb)
 replace C3 := Lib.hid (C3.out.below hb)
 replace O1 := Lib.hid (O1.out.below hb)
 replace O2 := Lib.hid (O2.out.below hb)
 replace O3 := Lib.hid (O3.out.below hb)
 replace K3 := Lib.hid (K3.out.below hb)
 obtain ⟨A4, ca4, B4, cb4, eu, ex⟩ := ho.forms
 have O4 := Lib.hid ho
 have EU4 := Lib.hid eu
 have EX4 := Lib.hid ex
 subst eu ex
 clear ho hb
 have c0 := C0.out.c0
 have c1 := C0.out.c1
 have l0 := C0.out.lt
 go_wp2_with fail
 refine gen_calls fun w5 hw => ?_
 have hb : Below v4.heap.size v4 w5 := by rw [hw]; exact bl_alloc _ (below_alloc _ _)
 have C4 := Lib.hid (show DeskCell w5 v4.heap.size (.slice A4 (ackD D id).cs.length ca4) (.slice B4 (ackD D id).ks.length cb4) from by rw [hw]; exact (DeskCell.new _ _ rfl).below (below_alloc _ _))
 have K4 := Lib.hid (show CaseC w5 (v4.heap.size + 1) kx from by rw [hw]; exact CaseC.new kx (by simp))
 replace HB := Lib.hid (below_trans HB.out hb)
 replace C0 := Lib.hid (C0.out.below hb)
 replace C1 := Lib.hid (C1.out.below hb)
 replace C2 := Lib.hid (C2.out.below hb)
 replace C3 := Lib.hid (C3.out.below hb)
 replace O1 := Lib.hid (O1.out.below hb)
 replace O2 := Lib.hid (O2.out.below hb)
 replace O3 := Lib.hid (O3.out.below hb)
 replace O4 := Lib.hid (O4.out.below hb)
 replace K3 := Lib.hid (K3.out.below hb)
 clear hw hb c0 c1 l0
 generalize v4.heap.size = n4 at *
 generalize n4 + 1 = k4 at *
 refine (leave_any _ id D w5 (HD.out.below HB.out) HS.out).mono ?_
 rintro e v5 ⟨u5, x5, rfl, ho, hb⟩
 rw [LE.out]
 replace HB := Lib.hid (below_trans HB.out hb)
 replace C0 := Lib.hid (C0.out.below hb)
 replace C1 := Lib.hid (C1.out.below hb)
 replace C2 := Lib.hid (C2.out.below hb)
 replace C3 := Lib.hid (C3.out.below hb)
 replace C4 := Lib.hid (C4.out.below hb)
 replace O1 := Lib.hid (O1.out.below hb)
 replace O2 := Lib.hid (O2.out.below hb)
 replace O3 := Lib.hid (O3.out.below hb)
 replace O4 := Lib.hid (O4.out.below hb)
 replace K3 := Lib.hid (K3.out.below hb)
 replace K4 := Lib.hid (K4.out.below hb)
 obtain ⟨A5, ca5, B5, cb5, eu, ex⟩ := ho.forms
 have O5 := Lib.hid ho
 have EU5 := Lib.hid eu
 have EX5 := Lib.hid ex
 subst eu ex
 clear ho hb
 have c0 := C0.out.c0
 have c1 := C0.out.c1
 have l0 := C0.out.lt
 go_wp2_with fail
 refine gen_calls fun w6 hw => ?_
 have hb : Below v5.heap.size v5 w6 := by rw [hw]; exact below_alloc _ _
 have C5 := Lib.hid (show DeskCell w6 v5.heap.size (.slice A5 (leaveD D id).cs.length ca5) (.slice B5 (leaveD D id).ks.length cb5) from by rw [hw]; exact DeskCell.new _ _ rfl)
 replace HB := Lib.hid (below_trans HB.out hb)
 replace C0 := Lib.hid (C0.out.below hb)
 replace C1 := Lib.hid (C1.out.below hb)
 replace C2 := Lib.hid (C2.out.below hb)
 replace C3 := Lib.hid (C3.out.below hb)
 replace C4 := Lib.hid (C4.out.below hb)
 replace O1 := Lib.hid (O1.out.below hb)
 replace O2 := Lib.hid (O2.out.below hb)
 replace O3 := Lib.hid (O3.out.below hb)
 replace O4 := Lib.hid (O4.out.below hb)
 replace O5 := Lib.hid (O5.out.below hb)
 replace K3 := Lib.hid (K3.out.below hb)
 replace K4 := Lib.hid (K4.out.below hb)
 clear hw hb c0 c1 l0
 generalize v5.heap.size = n5 at *
 refine (refLeave_any _ id D w6 (HD.out.below HB.out) HS.out).mono ?_
 rintro e v6 ⟨u6, x6, rfl, ho, hb⟩
 rw [LE.out]
 replace HB := Lib.hid (below_trans HB.out hb)
 replace C0 := Lib.hid (C0.out.below hb)
 replace C1 := Lib.hid (C1.out.below hb)
 replace C2 := Lib.hid (C2.out.below hb)
 replace C3 := Lib.hid (C3.out.below hb)
 replace C4 := Lib.hid (C4.out.below hb)
 replace C5 := Lib.hid (C5.out.below hb)
 replace O1 := Lib.hid (O1.out.below hb)
 replace O2 := Lib.hid (O2.out.below hb)
 replace O3 := Lib.hid (O3.out.below hb)
 replace O4 := Lib.hid (O4.out.below hb)
 replace O5 := Lib.hid (O5.out.below hb)
 replace K3 := Lib.hid (K3.out.below hb)
 replace K4 := Lib.hid (K4.out.below hb)
 obtain ⟨A6, ca6, B6, cb6, eu, ex⟩ := ho.forms
 have O6 := Lib.hid ho
 have EU6 := Lib.hid eu
 have EX6 := Lib.hid ex
 subst eu ex
 clear ho hb
 have c0 := C0.out.c0
 have c1 := C0.out.c1
 have l0 := C0.out.lt
 go_upto_region 7 with fail
 refine gen_world fun w7 hw => ?_
 have hb : Below v6.heap.size v6 w7 := by rw [hw]; exact below_alloc _ _
 have C6 := Lib.hid (show DeskCell w7 v6.heap.size (.slice A6 (leaveD D id).cs.length ca6) (.slice B6 (leaveD D id).ks.length cb6) from by rw [hw]; exact DeskCell.new _ _ rfl)
 replace HB := Lib.hid (below_trans HB.out hb)
 replace C0 := Lib.hid (C0.out.below hb)
 replace C1 := Lib.hid (C1.out.below hb)
 replace C2 := Lib.hid (C2.out.below hb)
 replace C3 := Lib.hid (C3.out.below hb)
 replace C4 := Lib.hid (C4.out.below hb)
 replace C5 := Lib.hid (C5.out.below hb)
 replace O1 := Lib.hid (O1.out.below hb)
 replace O2 := Lib.hid (O2.out.below hb)
 replace O3 := Lib.hid (O3.out.below hb)
 replace O4 := Lib.hid (O4.out.below hb)
 replace O5 := Lib.hid (O5.out.below hb)
 replace O6 := Lib.hid (O6.out.below hb)
 replace K3 := Lib.hid (K3.out.below hb)
 replace K4 := Lib.hid (K4.out.below hb)
 clear hw hb c0 c1 l0
 generalize v6.heap.size = n6 at *
 have HD0 := Lib.hid (HD.out.below HB.out)
 generalize hu1 : Value.slice A1 (giveD D r o t).cs.length ca1 = u1 at *
 generalize hx1 : Value.slice B1 (giveD D r o t).ks.length cb1 = x1 at *
 generalize hu2 : Value.slice A2 (giveD D r o t).cs.length ca2 = u2 at *
 generalize hx2 : Value.slice B2 (giveD D r o t).ks.length cb2 = x2 at *
 generalize hu3 : Value.slice A3 (ackD D id).cs.length ca3 = u3 at *
 generalize hx3 : Value.slice B3 (ackD D id).ks.length cb3 = x3 at *
 generalize hu4 : Value.slice A4 (ackD D id).cs.length ca4 = u4 at *
 generalize hx4 : Value.slice B4 (ackD D id).ks.length cb4 = x4 at *
 generalize hu5 : Value.slice A5 (leaveD D id).cs.length ca5 = u5 at *
 generalize hx5 : Value.slice B5 (leaveD D id).ks.length cb5 = x5 at *
 generalize hu6 : Value.slice A6 (leaveD D id).cs.length ca6 = u6 at *
 generalize hx6 : Value.slice B6 (leaveD D id).ks.length cb6 = x6 at *
 clear hu1 hx1 hu2 hx2 hu3 hx3 hu4 hx4 hu5 hx5 hu6 hx6
 refine wp_region_J2 (GI (R := Bl) [Pr.eq (.agg #[.slice A D.cs.length ca, .slice B D.ks.length cb]), Pr.eq (.int .i64 (chkE D)), Pr.eq (.agg #[.slice A D.cs.length ca, .slice B D.ks.length cb]), Pr.eq (.int .i64 (chkE D)), Pr.eq (.bool true), Pr.eq (.bool true), Pr.eq (.agg #[u1, x1]), Pr.eq (.agg #[u2, x2]), Pr.eq (.int .i64 ge), Pr.eq (.int .i64 ge), Pr.eq (.bool true), Pr.eq (.bool true), Pr.eq (.bool true), Pr.eq (.int .i64 gi), Pr.eq (.int .i64 gi), Pr.eq (.bool true), Pr.eq (.bool true), Pr.eq (.bool true), Pr.eq (.agg #[u3, x3]), Pr.eq (.agg #[u4, x4]), Pr.eq (.int .i64 ae), Pr.eq (.int .i64 ae), Pr.eq (.bool true), Pr.eq (.bool true), Pr.eq (.bool true), Pr.eq (caseV kx), Pr.eq (caseV kx), Pr.eq (.bool true), Pr.eq (.bool true), Pr.eq (.bool true), Pr.eq (.agg #[u5, x5]), Pr.eq (.agg #[u6, x6]), Pr.eq (.int .i64 le), Pr.eq (.int .i64 le), Pr.eq (.bool true), Pr.eq (.bool true), Pr.eq (.bool true), Pr.eq (.agg #[.slice A D.cs.length ca, .slice B D.ks.length cb]), Pr.eq (.int .i64 id), elsP (unseenL D.ks id), Pr.eq (.agg #[.slice A D.cs.length ca, .slice B D.ks.length cb]), Pr.eq (.int .i64 id), elsP (unseenL D.ks id), Pr.eq (.bool true), Pr.eq (.bool true), Pr.eq (.bool true)] (GrS w7)) (by kernel_rfl) (by kernel_rfl) (by kernel_rfl) ?_ ?_ ?_
 case refine_1 => exact fun V => GI.start (GrS.start _ _ _)
 case refine_2 =>
  refine .cons (fun V Ld a W hLi hpre hR hI KK hK => ?_) ?_
  ·
   have o5 := (hR.old 5 (by kernel_rfl)).trans (show _ = Value.pointer (some ⟨bx, 0, none⟩) from rfl)
   exact J_load rfl _ (.tmp 5) rfl (by rw [o5]; exact ld_desk (C0.out.below hI.st.bl)) (hI.u0 hK rfl)
  refine .cons (fun V Ld a W hLi hpre hR hI KK hK => ?_) ?_
  ·
   have f0 := hI.ef hR hpre 0 rfl rfl rfl (by kernel_rfl)
   refine J_call rfl _ _ _ rfl enter_chk (by simp only [List.map_toArray, List.map_cons, List.map_nil, f0]) (check_any _ D W (HD0.out.below hI.st.bl) HS.out) ?_
   rintro e w' ⟨rfl, hb⟩
   exact ⟨_, rfl, hK _ _ (hI.put (R := Bl) hb 1 rfl rfl (hI.st.to hb))⟩
  refine .cons (fun V Ld a W hLi hpre hR hI KK hK => ?_) ?_
  ·
   have o5 := (hR.old 5 (by kernel_rfl)).trans (show _ = Value.pointer (some ⟨bx, 0, none⟩) from rfl)
   exact J_load rfl _ (.tmp 5) rfl (by rw [o5]; exact ld_desk (C0.out.below hI.st.bl)) (hI.u0 hK rfl)
  refine .cons (fun V Ld a W hLi hpre hR hI KK hK => ?_) ?_
  ·
   have f2 := hI.ef hR hpre 2 rfl rfl rfl (by kernel_rfl)
   refine J_call rfl _ _ _ rfl enter_rchk (by simp only [List.map_toArray, List.map_cons, List.map_nil, f2]) (refCheck_any _ D W (HD0.out.below hI.st.bl) HS.out) ?_
   rintro e w' ⟨rfl, hb⟩
   exact ⟨_, rfl, hK _ _ (hI.put (R := Bl) hb 3 rfl rfl (hI.st.to hb))⟩
  refine .cons (fun V Ld a W hLi hpre hR hI KK hK => ?_) ?_
  ·
   have f1 := hI.ef hR hpre 1 rfl rfl rfl (by kernel_rfl)
   have f3 := hI.ef hR hpre 3 rfl rfl rfl (by kernel_rfl)
   exact J_binOp rfl .eql _ (.tmp 72) (.tmp 74) _ rfl (by rw [f1, f3]; go_simp) (hI.u0 hK rfl)
  refine .mf 4 rfl rfl rfl rfl rfl (by kernel_rfl) rfl ?_
  refine .cons (fun V Ld a W hLi hpre hR hI KK hK => ?_) ?_
  ·
   refine G_gw hI hR hpre 5 rfl rfl rfl rfl (by kernel_rfl) ?_
   have o11 := (hR.old 11 (by kernel_rfl)).trans (show _ = Value.pointer (some ⟨n1, 0, none⟩) from rfl)
   exact J_load rfl _ (.tmp 11) rfl (by rw [o11]; exact ld_desk (C1.out.below hI.st.bl)) (hI.u0 hK rfl)
  refine .cons (fun V Ld a W hLi hpre hR hI KK hK => ?_) ?_
  ·
   refine G_gw hI hR hpre 5 rfl rfl rfl rfl (by kernel_rfl) ?_
   have o14 := (hR.old 14 (by kernel_rfl)).trans (show _ = Value.pointer (some ⟨n2, 0, none⟩) from rfl)
   exact J_load rfl _ (.tmp 14) rfl (by rw [o14]; exact ld_desk (C2.out.below hI.st.bl)) (hI.u0 hK rfl)
  refine .cons (fun V Ld a W hLi hpre hR hI KK hK => ?_) ?_
  ·
   refine G_gw hI hR hpre 5 rfl rfl rfl rfl (by kernel_rfl) ?_
   have o13 := (hR.old 13 (by kernel_rfl)).trans (show _ = Value.int .i64 ge from rfl)
   exact G_move rfl (.tmp 13) rfl o13 (hI.u0 hK rfl)
  refine .cons (fun V Ld a W hLi hpre hR hI KK hK => ?_) ?_
  ·
   refine G_gw hI hR hpre 5 rfl rfl rfl rfl (by kernel_rfl) ?_
   have o16 := (hR.old 16 (by kernel_rfl)).trans (show _ = Value.int .i64 ge from rfl)
   exact G_move rfl (.tmp 16) rfl o16 (hI.u0 hK rfl)
  refine .cons (fun V Ld a W hLi hpre hR hI KK hK => ?_) ?_
  ·
   refine G_gw hI hR hpre 5 rfl rfl rfl rfl (by kernel_rfl) ?_
   have f6 := hI.ef hR hpre 6 rfl rfl rfl (by kernel_rfl)
   have f7 := hI.ef hR hpre 7 rfl rfl rfl (by kernel_rfl)
   have f8 := hI.ef hR hpre 8 rfl rfl rfl (by kernel_rfl)
   have f9 := hI.ef hR hpre 9 rfl rfl rfl (by kernel_rfl)
   refine J_call rfl _ _ _ rfl enter_same (by simp only [List.map_toArray, List.map_cons, List.map_nil, f6, f7, f8, f9]) (lawSame_any _ _ ge _ W (O1.out.below hI.st.bl).read (O2.out.below hI.st.bl).read SG.out) ?_
   rintro e w' ⟨rfl, hb⟩
   exact ⟨_, rfl, hK _ _ (hI.put (R := Bl) hb 10 rfl rfl (hI.st.to hb))⟩
  refine .cons (fun V Ld a W hLi hpre hR hI KK hK => ?_) ?_
  ·
   have f5 := hI.ef hR hpre 5 rfl rfl rfl (by kernel_rfl)
   have f10 := hI.ef hR hpre 10 rfl rfl rfl (by kernel_rfl)
   exact G_pick rfl (.tmp 76) (.tmp 81) (.const (.bool false)) rfl f5 (show _ = _ from f10) (hI.u0 hK rfl)
  refine .mf 11 rfl rfl rfl rfl rfl (by kernel_rfl) rfl ?_
  refine .cons (fun V Ld a W hLi hpre hR hI KK hK => ?_) ?_
  ·
   refine G_gw hI hR hpre 12 rfl rfl rfl rfl (by kernel_rfl) ?_
   have o12 := (hR.old 12 (by kernel_rfl)).trans (show _ = Value.int .i64 gi from rfl)
   exact G_move rfl (.tmp 12) rfl o12 (hI.u0 hK rfl)
  refine .cons (fun V Ld a W hLi hpre hR hI KK hK => ?_) ?_
  ·
   refine G_gw hI hR hpre 12 rfl rfl rfl rfl (by kernel_rfl) ?_
   have o15 := (hR.old 15 (by kernel_rfl)).trans (show _ = Value.int .i64 gi from rfl)
   exact G_move rfl (.tmp 15) rfl o15 (hI.u0 hK rfl)
  refine .cons (fun V Ld a W hLi hpre hR hI KK hK => ?_) ?_
  ·
   refine G_gw hI hR hpre 12 rfl rfl rfl rfl (by kernel_rfl) ?_
   have f13 := hI.ef hR hpre 13 rfl rfl rfl (by kernel_rfl)
   have f14 := hI.ef hR hpre 14 rfl rfl rfl (by kernel_rfl)
   exact J_binOp rfl .eql _ (.tmp 84) (.tmp 85) _ rfl (by rw [f13, f14]; go_simp) (hI.u0 hK rfl)
  refine .cons (fun V Ld a W hLi hpre hR hI KK hK => ?_) ?_
  ·
   have f12 := hI.ef hR hpre 12 rfl rfl rfl (by kernel_rfl)
   have f15 := hI.ef hR hpre 15 rfl rfl rfl (by kernel_rfl)
   exact G_pick rfl (.tmp 83) (.tmp 86) (.const (.bool false)) rfl f12 (show _ = _ from f15) (hI.u0 hK rfl)
  refine .mf 16 rfl rfl rfl rfl rfl (by kernel_rfl) rfl ?_
  refine .cons (fun V Ld a W hLi hpre hR hI KK hK => ?_) ?_
  ·
   refine G_gw hI hR hpre 17 rfl rfl rfl rfl (by kernel_rfl) ?_
   have o17 := (hR.old 17 (by kernel_rfl)).trans (show _ = Value.pointer (some ⟨n3, 0, none⟩) from rfl)
   exact J_load rfl _ (.tmp 17) rfl (by rw [o17]; exact ld_desk (C3.out.below hI.st.bl)) (hI.u0 hK rfl)
  refine .cons (fun V Ld a W hLi hpre hR hI KK hK => ?_) ?_
  ·
   refine G_gw hI hR hpre 17 rfl rfl rfl rfl (by kernel_rfl) ?_
   have o20 := (hR.old 20 (by kernel_rfl)).trans (show _ = Value.pointer (some ⟨n4, 0, none⟩) from rfl)
   exact J_load rfl _ (.tmp 20) rfl (by rw [o20]; exact ld_desk (C4.out.below hI.st.bl)) (hI.u0 hK rfl)
  refine .cons (fun V Ld a W hLi hpre hR hI KK hK => ?_) ?_
  ·
   refine G_gw hI hR hpre 17 rfl rfl rfl rfl (by kernel_rfl) ?_
   have o19 := (hR.old 19 (by kernel_rfl)).trans (show _ = Value.int .i64 ae from rfl)
   exact G_move rfl (.tmp 19) rfl o19 (hI.u0 hK rfl)
  refine .cons (fun V Ld a W hLi hpre hR hI KK hK => ?_) ?_
  ·
   refine G_gw hI hR hpre 17 rfl rfl rfl rfl (by kernel_rfl) ?_
   have o22 := (hR.old 22 (by kernel_rfl)).trans (show _ = Value.int .i64 ae from rfl)
   exact G_move rfl (.tmp 22) rfl o22 (hI.u0 hK rfl)
  refine .cons (fun V Ld a W hLi hpre hR hI KK hK => ?_) ?_
  ·
   refine G_gw hI hR hpre 17 rfl rfl rfl rfl (by kernel_rfl) ?_
   have f18 := hI.ef hR hpre 18 rfl rfl rfl (by kernel_rfl)
   have f19 := hI.ef hR hpre 19 rfl rfl rfl (by kernel_rfl)
   have f20 := hI.ef hR hpre 20 rfl rfl rfl (by kernel_rfl)
   have f21 := hI.ef hR hpre 21 rfl rfl rfl (by kernel_rfl)
   refine J_call rfl _ _ _ rfl enter_same (by simp only [List.map_toArray, List.map_cons, List.map_nil, f18, f19, f20, f21]) (lawSame_any _ _ ae _ W (O3.out.below hI.st.bl).read (O4.out.below hI.st.bl).read SA.out) ?_
   rintro e w' ⟨rfl, hb⟩
   exact ⟨_, rfl, hK _ _ (hI.put (R := Bl) hb 22 rfl rfl (hI.st.to hb))⟩
  refine .cons (fun V Ld a W hLi hpre hR hI KK hK => ?_) ?_
  ·
   have f17 := hI.ef hR hpre 17 rfl rfl rfl (by kernel_rfl)
   have f22 := hI.ef hR hpre 22 rfl rfl rfl (by kernel_rfl)
   exact G_pick rfl (.tmp 88) (.tmp 93) (.const (.bool false)) rfl f17 (show _ = _ from f22) (hI.u0 hK rfl)
  refine .mf 23 rfl rfl rfl rfl rfl (by kernel_rfl) rfl ?_
  refine .cons (fun V Ld a W hLi hpre hR hI KK hK => ?_) ?_
  ·
   refine G_gw hI hR hpre 24 rfl rfl rfl rfl (by kernel_rfl) ?_
   have o18 := (hR.old 18 (by kernel_rfl)).trans (show _ = Value.pointer (some ⟨k3, 0, none⟩) from rfl)
   exact J_load rfl _ (.tmp 18) rfl (by rw [o18]; exact ld_case (K3.out.below hI.st.bl)) (hI.u0 hK rfl)
  refine .cons (fun V Ld a W hLi hpre hR hI KK hK => ?_) ?_
  ·
   refine G_gw hI hR hpre 24 rfl rfl rfl rfl (by kernel_rfl) ?_
   have o21 := (hR.old 21 (by kernel_rfl)).trans (show _ = Value.pointer (some ⟨k4, 0, none⟩) from rfl)
   exact J_load rfl _ (.tmp 21) rfl (by rw [o21]; exact ld_case (K4.out.below hI.st.bl)) (hI.u0 hK rfl)
  refine .cons (fun V Ld a W hLi hpre hR hI KK hK => ?_) ?_
  ·
   refine G_gw hI hR hpre 24 rfl rfl rfl rfl (by kernel_rfl) ?_
   have f25 := hI.ef hR hpre 25 rfl rfl rfl (by kernel_rfl)
   have f26 := hI.ef hR hpre 26 rfl rfl rfl (by kernel_rfl)
   exact J_binOp rfl .eql _ (.tmp 96) (.tmp 97) _ rfl (by rw [f25, f26]; exact eq_case _ _ kx W) (hI.u0 hK rfl)
  refine .cons (fun V Ld a W hLi hpre hR hI KK hK => ?_) ?_
  ·
   have f24 := hI.ef hR hpre 24 rfl rfl rfl (by kernel_rfl)
   have f27 := hI.ef hR hpre 27 rfl rfl rfl (by kernel_rfl)
   exact G_pick rfl (.tmp 95) (.tmp 98) (.const (.bool false)) rfl f24 (show _ = _ from f27) (hI.u0 hK rfl)
  refine .mf 28 rfl rfl rfl rfl rfl (by kernel_rfl) rfl ?_
  refine .cons (fun V Ld a W hLi hpre hR hI KK hK => ?_) ?_
  ·
   refine G_gw hI hR hpre 29 rfl rfl rfl rfl (by kernel_rfl) ?_
   have o23 := (hR.old 23 (by kernel_rfl)).trans (show _ = Value.pointer (some ⟨n5, 0, none⟩) from rfl)
   exact J_load rfl _ (.tmp 23) rfl (by rw [o23]; exact ld_desk (C5.out.below hI.st.bl)) (hI.u0 hK rfl)
  refine .cons (fun V Ld a W hLi hpre hR hI KK hK => ?_) ?_
  ·
   refine G_gw hI hR hpre 29 rfl rfl rfl rfl (by kernel_rfl) ?_
   have o25 := (hR.old 25 (by kernel_rfl)).trans (show _ = Value.pointer (some ⟨n6, 0, none⟩) from rfl)
   exact J_load rfl _ (.tmp 25) rfl (by rw [o25]; exact ld_desk (C6.out.below hI.st.bl)) (hI.u0 hK rfl)
  refine .cons (fun V Ld a W hLi hpre hR hI KK hK => ?_) ?_
  ·
   refine G_gw hI hR hpre 29 rfl rfl rfl rfl (by kernel_rfl) ?_
   have o24 := (hR.old 24 (by kernel_rfl)).trans (show _ = Value.int .i64 le from rfl)
   exact G_move rfl (.tmp 24) rfl o24 (hI.u0 hK rfl)
  refine .cons (fun V Ld a W hLi hpre hR hI KK hK => ?_) ?_
  ·
   refine G_gw hI hR hpre 29 rfl rfl rfl rfl (by kernel_rfl) ?_
   have o26 := (hR.old 26 (by kernel_rfl)).trans (show _ = Value.int .i64 le from rfl)
   exact G_move rfl (.tmp 26) rfl o26 (hI.u0 hK rfl)
  refine .cons (fun V Ld a W hLi hpre hR hI KK hK => ?_) ?_
  ·
   refine G_gw hI hR hpre 29 rfl rfl rfl rfl (by kernel_rfl) ?_
   have f30 := hI.ef hR hpre 30 rfl rfl rfl (by kernel_rfl)
   have f31 := hI.ef hR hpre 31 rfl rfl rfl (by kernel_rfl)
   have f32 := hI.ef hR hpre 32 rfl rfl rfl (by kernel_rfl)
   have f33 := hI.ef hR hpre 33 rfl rfl rfl (by kernel_rfl)
   refine J_call rfl _ _ _ rfl enter_same (by simp only [List.map_toArray, List.map_cons, List.map_nil, f30, f31, f32, f33]) (lawSame_any _ _ le _ W (O5.out.below hI.st.bl).read (O6.out.below hI.st.bl).read SL.out) ?_
   rintro e w' ⟨rfl, hb⟩
   exact ⟨_, rfl, hK _ _ (hI.put (R := Bl) hb 34 rfl rfl (hI.st.to hb))⟩
  refine .cons (fun V Ld a W hLi hpre hR hI KK hK => ?_) ?_
  ·
   have f29 := hI.ef hR hpre 29 rfl rfl rfl (by kernel_rfl)
   have f34 := hI.ef hR hpre 34 rfl rfl rfl (by kernel_rfl)
   exact G_pick rfl (.tmp 100) (.tmp 105) (.const (.bool false)) rfl f29 (show _ = _ from f34) (hI.u0 hK rfl)
  refine .mf 35 rfl rfl rfl rfl rfl (by kernel_rfl) rfl ?_
  refine .cons (fun V Ld a W hLi hpre hR hI KK hK => ?_) ?_
  ·
   refine G_gw hI hR hpre 36 rfl rfl rfl rfl (by kernel_rfl) ?_
   have o5 := (hR.old 5 (by kernel_rfl)).trans (show _ = Value.pointer (some ⟨bx, 0, none⟩) from rfl)
   exact J_load rfl _ (.tmp 5) rfl (by rw [o5]; exact ld_desk (C0.out.below hI.st.bl)) (hI.u0 hK rfl)
  refine .cons (fun V Ld a W hLi hpre hR hI KK hK => ?_) ?_
  ·
   refine G_gw hI hR hpre 36 rfl rfl rfl rfl (by kernel_rfl) ?_
   have o4 := (hR.old 4 (by kernel_rfl)).trans (show _ = Value.int .i64 id from rfl)
   exact G_move rfl (.tmp 4) rfl o4 (hI.u0 hK rfl)
  refine .cons (fun V Ld a W hLi hpre hR hI KK hK => ?_) ?_
  ·
   refine G_gw hI hR hpre 36 rfl rfl rfl rfl (by kernel_rfl) ?_
   have f37 := hI.ef hR hpre 37 rfl rfl rfl (by kernel_rfl)
   have f38 := hI.ef hR hpre 38 rfl rfl rfl (by kernel_rfl)
   refine J_call rfl _ _ _ rfl enter_un (by simp only [List.map_toArray, List.map_cons, List.map_nil, f37, f38]) (unseen_any _ id D W (HD0.out.below hI.st.bl) HKL.out) ?_
   rintro e w' ⟨v, rfl, ho, hb⟩
   exact ⟨_, rfl, hK _ _ (hI.put (R := Bl) hb 39 rfl (elsP_of ho) (hI.st.to hb))⟩
  refine .cons (fun V Ld a W hLi hpre hR hI KK hK => ?_) ?_
  ·
   refine G_gw hI hR hpre 36 rfl rfl rfl rfl (by kernel_rfl) ?_
   have o5 := (hR.old 5 (by kernel_rfl)).trans (show _ = Value.pointer (some ⟨bx, 0, none⟩) from rfl)
   exact J_load rfl _ (.tmp 5) rfl (by rw [o5]; exact ld_desk (C0.out.below hI.st.bl)) (hI.u0 hK rfl)
  refine .cons (fun V Ld a W hLi hpre hR hI KK hK => ?_) ?_
  ·
   refine G_gw hI hR hpre 36 rfl rfl rfl rfl (by kernel_rfl) ?_
   have o4 := (hR.old 4 (by kernel_rfl)).trans (show _ = Value.int .i64 id from rfl)
   exact G_move rfl (.tmp 4) rfl o4 (hI.u0 hK rfl)
  refine .cons (fun V Ld a W hLi hpre hR hI KK hK => ?_) ?_
  ·
   refine G_gw hI hR hpre 36 rfl rfl rfl rfl (by kernel_rfl) ?_
   have f40 := hI.ef hR hpre 40 rfl rfl rfl (by kernel_rfl)
   have f41 := hI.ef hR hpre 41 rfl rfl rfl (by kernel_rfl)
   refine J_call rfl _ _ _ rfl enter_runs (by simp only [List.map_toArray, List.map_cons, List.map_nil, f40, f41]) (refUnseen_any _ id D W (HD0.out.below hI.st.bl) HKL.out) ?_
   rintro e w' ⟨v, rfl, ho, hb⟩
   exact ⟨_, rfl, hK _ _ (hI.put (R := Bl) hb 42 rfl (elsP_of ho) (hI.st.to hb))⟩
  refine .cons (fun V Ld a W hLi hpre hR hI KK hK => ?_) ?_
  ·
   refine G_gw hI hR hpre 36 rfl rfl rfl rfl (by kernel_rfl) ?_
   have p39 := pm hpre 39 (by kernel_rfl)
   obtain ⟨A39, c39, e39, h39⟩ := hI.val 39 _ rfl p39
   have f39 := (hR.ev 39 rfl rfl p39).trans e39
   have p42 := pm hpre 42 (by kernel_rfl)
   obtain ⟨A42, c42, e42, h42⟩ := hI.val 42 _ rfl p42
   have f42 := (hR.ev 42 rfl rfl p42).trans e42
   refine J_call rfl _ _ _ rfl enter_sc (by simp only [List.map_toArray, List.map_cons, List.map_nil, f39, f42]) (sameCases_any A39 A42 (unseenL D.ks id) c39 c42 W h39 h42 HUL.out) ?_
   rintro e w' ⟨rfl, hb⟩
   exact ⟨_, rfl, hK _ _ (hI.put (R := Bl) hb 43 rfl rfl (hI.st.to hb))⟩
  refine .cons (fun V Ld a W hLi hpre hR hI KK hK => ?_) ?_
  ·
   have f36 := hI.ef hR hpre 36 rfl rfl rfl (by kernel_rfl)
   have f43 := hI.ef hR hpre 43 rfl rfl rfl (by kernel_rfl)
   exact G_pick rfl (.tmp 107) (.tmp 114) (.const (.bool false)) rfl f36 (show _ = _ from f43) (hI.u0 hK rfl)
  refine .cons (fun V Ld a W hLi hpre hR hI KK hK => ?_) trivial
  ·
   have f44 := hI.ef hR hpre 44 rfl rfl rfl (by kernel_rfl)
   exact G_assign rfl (.tmp 115) rfl f44 (hI.u0 hK rfl)
 case refine_3 =>
  intro V Ld w9 hLd hI
  have e45 : V 45 = _ := hI.val 45 _ rfl (hLd 45 (by decide))
  have hb9 := below_trans HB.out hI.st.bl
  clear hI hLd
  simp only [finL, putL, Act.put, Nat.reduceAdd]
  rw [e45]
  clear e45
  generalize V 0 = z0, V 1 = z1
  generalize V 2 = z2, V 3 = z3
  generalize V 4 = z4, V 5 = z5
  generalize V 6 = z6, V 7 = z7
  generalize V 8 = z8, V 9 = z9
  generalize V 10 = z10, V 11 = z11
  generalize V 12 = z12, V 13 = z13
  generalize V 14 = z14, V 15 = z15
  generalize V 16 = z16, V 17 = z17
  generalize V 18 = z18, V 19 = z19
  generalize V 20 = z20, V 21 = z21
  generalize V 22 = z22, V 23 = z23
  generalize V 24 = z24, V 25 = z25
  generalize V 26 = z26, V 27 = z27
  generalize V 28 = z28, V 29 = z29
  generalize V 30 = z30, V 31 = z31
  generalize V 32 = z32, V 33 = z33
  generalize V 34 = z34, V 35 = z35
  generalize V 36 = z36, V 37 = z37
  generalize V 38 = z38, V 39 = z39
  generalize V 40 = z40, V 41 = z41
  generalize V 42 = z42, V 43 = z43, V 44 = z44
  clear V
  simp only [List.setIfInBounds_toArray, List.set_cons_succ, List.set_cons_zero]
  go_wp2_with fail
  go_ret
  exact RetB.bool rfl hb9
end Go.Proofs.Ytjckpammcgeloaa
namespace Go.Proofs.Ytjckpammcgeloaa
open Go.RowKit

def bAnn : ByteArray := ⟨#[97, 110, 110]⟩
def bBob : ByteArray := ⟨#[98, 111, 98]⟩
def bCid : ByteArray := ⟨#[99, 105, 100]⟩
def bHr : ByteArray := ⟨#[104, 114]⟩
def D0 : DeskD := ⟨[⟨1, bHr, []⟩, ⟨4, bHr, [bBob]⟩], []⟩
theorem two_any (w : World) : Calls Try.prog 23 #[] w (CopD D0 w) := by
  have h : ∀ wf, wf = (((w.alloc (.cells #[.slice (some ⟨w.heap.size + 1 + 1, 0, none⟩) 2 2, .slice none 0 0] 30)).alloc (.cells #[.string ⟨#[98, 111, 98]⟩] 9)).alloc (.cells #[.int .i64 1, .string ⟨#[104, 114]⟩, .slice none 0 0, .int .i64 4, .string ⟨#[104, 114]⟩, .slice (some ⟨w.heap.size + 1, 0, none⟩) 1 1] 45)) → DeskCell wf w.heap.size (.slice (some ⟨w.heap.size + 1 + 1, 0, none⟩) 2 2) (.slice none 0 0) ∧ CopD D0 w (.returned (.agg #[.slice (some ⟨w.heap.size + 1 + 1, 0, none⟩) 2 2, .slice none 0 0])) wf := by
    intro wf hwf
    have b1 := below_alloc w (.cells #[.slice (some ⟨w.heap.size + 1 + 1, 0, none⟩) 2 2, .slice none 0 0] 30)
    have b2 := below_alloc (w.alloc (.cells #[.slice (some ⟨w.heap.size + 1 + 1, 0, none⟩) 2 2, .slice none 0 0] 30)) (.cells #[.string ⟨#[98, 111, 98]⟩] 9)
    have b3 := below_alloc ((w.alloc (.cells #[.slice (some ⟨w.heap.size + 1 + 1, 0, none⟩) 2 2, .slice none 0 0] 30)).alloc (.cells #[.string ⟨#[98, 111, 98]⟩] 9)) (.cells #[.int .i64 1, .string ⟨#[104, 114]⟩, .slice none 0 0, .int .i64 4, .string ⟨#[104, 114]⟩, .slice (some ⟨w.heap.size + 1, 0, none⟩) 1 1] 45)
    rw [← hwf] at b3
    have e2 : wf.heap[w.heap.size + 1]? = some (.cells #[.string ⟨#[98, 111, 98]⟩] 9 (0, 0)) := by
      rw [b3.block _ (by simp)]
      have := heap_alloc_new (w.alloc (.cells #[.slice (some ⟨w.heap.size + 1 + 1, 0, none⟩) 2 2, .slice none 0 0] 30)) (.cells #[.string ⟨#[98, 111, 98]⟩] 9)
      simpa using this
    have e3 : wf.heap[w.heap.size + 1 + 1]? = some (.cells #[.int .i64 1, .string ⟨#[104, 114]⟩, .slice none 0 0, .int .i64 4, .string ⟨#[104, 114]⟩, .slice (some ⟨w.heap.size + 1, 0, none⟩) 1 1] 45 (0, 0)) := by
      have := heap_alloc_new ((w.alloc (.cells #[.slice (some ⟨w.heap.size + 1 + 1, 0, none⟩) 2 2, .slice none 0 0] 30)).alloc (.cells #[.string ⟨#[98, 111, 98]⟩] 9)) (.cells #[.int .i64 1, .string ⟨#[104, 114]⟩, .slice none 0 0, .int .i64 4, .string ⟨#[104, 114]⟩, .slice (some ⟨w.heap.size + 1, 0, none⟩) 1 1] 45)
      rw [← hwf] at this
      simpa using this
    have l2 := blk_ltE e2
    refine ⟨((DeskCell.new _ _ rfl).below b2).below b3, _, _, rfl, ⟨⟨[⟨1, bHr, none, 0, 0⟩, ⟨4, bHr, some ⟨w.heap.size + 1, 0, none⟩, 1, 1⟩], ?_, rfl, fun k hk => ?_⟩, ElOwn.nil _ _ _ _, fun b _ e => by cases e⟩, below_trans (below_trans b1 b2) b3⟩
    · exact ⟨rfl, .inr ⟨w.heap.size + 1 + 1, 2, _, rfl, by omega, e3, Nat.le_refl _, by unfold maxLen; omega, rfl, rfl⟩⟩
    · rcases k with _ | _ | k
      · exact ⟨rfl, rfl, rfl, ElP.nil _ _ _⟩
      · refine ⟨rfl, rfl, rfl, ⟨fun j x hj => ?_, ⟨show 1 ≤ 1 by omega, show 1 ≤ maxLen by unfold maxLen; omega, fun e => (by cases e), .inr (fun a e => (by injection e with e; rw [← e]))⟩, fun b off e => ?_⟩⟩
        · rcases j with _ | j
          · have hj : some bBob = some x := hj
            injection hj with hj
            subst hj
            refine ⟨w.heap.size + 1, 0, rfl, l2, fun i hi => ?_⟩
            have hi : i < 1 := hi
            obtain rfl : i = 0 := by omega
            exact cell_of_row _ _ 0 _ _ (0, 0) e2
          · have hj : ([] : List ByteArray)[j]? = some x := hj
            simp at hj
        · right
          injection e with e
          injection e with e1 e2
          subst e1
          exact ⟨by omega, fun e => (by have e : some (w.heap.size + 1 + 1) = some (w.heap.size + 1) := e; injection e with e; omega), fun e => (by cases e)⟩
      · exact absurd hk (by show ¬ k + 2 < 2; omega)
  have HF := Lib.hid h
  clear h
  go_enter Try.func23, Try.ntmps23
  go_wp2_with fail
  exact bodyPost_ret (results_desk rfl _ _ w.heap.size rfl (HF.out _ rfl).1) rfl (HF.out _ rfl).2

def D1 : DeskD := giveD D0 bAnn bHr 3
def D2 : DeskD := giveD D1 bCid bHr 3
def D3 : DeskD := ackD D2 4
theorem aw_e1 : giveE D0 bAnn bHr 3 = 0 := by decide +kernel
theorem aw_i1 : giveI D0 bAnn bHr 3 = 1 := by decide +kernel
theorem aw_e2 : giveE D1 bCid bHr 3 = 0 := by decide +kernel
theorem aw_i2 : giveI D1 bCid bHr 3 = 4 := by decide +kernel
theorem aw_e3 : ackE D2 4 = 0 := by decide +kernel
theorem aw_r3 : (eqS (ackK D2 4).r bCid && (ackK D2 4).s) = true := by decide +kernel
theorem aw_e4 : leaveE D2 1 = 0 := by decide +kernel
theorem aw_u1 : (unseenL D2.ks 1).length = 1 := by decide +kernel
theorem aw_u2 : (unseenL D3.ks 4).length = 0 := by decide +kernel
theorem aw_c : chkE D3 = 0 := by decide +kernel
theorem cid_list : bCid.toList = [99, 105, 100] := by decide +kernel
theorem eqS_toList {s t : ByteArray} (h : eqS s t = true) : s.toList = t.toList := eq_of_beq h
theorem s0 : DeskS D0 := by
  refine ⟨by decide, by decide, fun k hk => ?_, fun k hk => absurd hk (by show ¬ k < 0; omega)⟩
  rcases k with _ | _ | k
  · exact ⟨by unfold maxLen; decide, by decide, fun j hj => absurd hj (by show ¬ j < 0; omega)⟩
  · refine ⟨by unfold maxLen; decide, by decide, fun j hj => ?_⟩
    obtain rfl : j = 0 := by have hj : j < 1 := hj; omega
    unfold maxLen; decide
  · exact absurd hk (by show ¬ k + 2 < 2; omega)
theorem s1 : DeskS D1 := giveD_small s0 (by decide) _ _ _ (by unfold maxLen; decide) (by unfold maxLen; decide)
theorem k1 : D1.ks.length = 1 := by decide +kernel
theorem k2 : D2.ks.length = 2 := by decide +kernel
theorem s2 : DeskS D2 := giveD_small s1 (by rw [k1]; decide) _ _ _ (by unfold maxLen; decide) (by unfold maxLen; decide)
theorem s3 : DeskS D3 := ackD_small s2 _
set_option maxRecDepth 100000 in
set_option maxHeartbeats 4000000 in
theorem awake32_any (w : World) : Calls Try.prog 9 #[] w (RetB (.bool true) w) := by
  have S0 := Lib.hid s0
  have S1 := Lib.hid s1
  have S2 := Lib.hid s2
  have S3 := Lib.hid s3
  have E1 := Lib.hid aw_e1
  have I1 := Lib.hid aw_i1
  have E2 := Lib.hid aw_e2
  have I2 := Lib.hid aw_i2
  have E3 := Lib.hid aw_e3
  have E4 := Lib.hid aw_e4
  have R3 := Lib.hid aw_r3
  have U1 := Lib.hid aw_u1
  have U2 := Lib.hid aw_u2
  have CC := Lib.hid aw_c
  have KL1 := Lib.hid k1
  have KL2 := Lib.hid k2
  have FA := Lib.hid (show giveD D0 bAnn bHr 3 = D1 from rfl)
  have FB := Lib.hid (show giveD D1 bCid bHr 3 = D2 from rfl)
  have FC := Lib.hid (show ackD D2 4 = D3 from rfl)
  generalize hd0 : D0 = d0 at *
  generalize hd1 : D1 = d1 at *
  generalize hd2 : D2 = d2 at *
  generalize hd3 : D3 = d3 at *
  have ED0 := Lib.hid hd0
  clear hd0 hd1 hd2 hd3
  go_enter Try.func9, Try.ntmps9
  go_wp2_with fail
  refine (two_any w).mono ?_
  rintro e v0 ⟨u0, x0, rfl, ho, hb⟩
  rw [ED0.out] at ho
  have HB := Lib.hid hb
  have O0 := Lib.hid ho
  clear ho hb
  go_wp2_with fail
  refine (give_any _ bAnn bHr 3 d0 v0 O0.out.read S0.out (by unfold maxLen; decide)).mono ?_
  rintro e v1 ⟨u1, x1, rfl, ho, hb⟩
  rw [I1.out, E1.out]
  rw [FA.out] at ho
  obtain ⟨A1, ca1, B1, cb1, eu, ex⟩ := ho.forms
  have O1 := Lib.hid ho
  replace HB := Lib.hid (below_trans HB.out hb)
  have NN := Lib.hid (show w.heap.size ≤ v1.heap.size from HB.out.size)
  subst eu ex
  clear ho hb
  go_wp2_with fail
  refine gen_calls fun w2 hw => ?_
  have hb : Below v1.heap.size v1 w2 := by rw [hw]; exact below_alloc _ _
  have C1 := Lib.hid (show DeskCell w2 v1.heap.size (.slice A1 d1.cs.length ca1) (.slice B1 d1.ks.length cb1) from by rw [hw]; exact DeskCell.new _ _ rfl)
  replace O1 := Lib.hid (O1.out.below hb)
  replace HB := Lib.hid (below_trans HB.out hb)
  clear hw hb O0
  generalize v1.heap.size = n1 at *
  refine (give_any _ bCid bHr 3 d1 w2 O1.out.read S1.out (by unfold maxLen; decide)).mono ?_
  rintro e v2 ⟨u2, x2, rfl, ho, hb⟩
  rw [I2.out, E2.out]
  rw [FB.out] at ho
  obtain ⟨A2, ca2, B2, cb2, eu, ex⟩ := ho.forms
  have hn1 := C1.out.lt
  have O2 := Lib.hid ho
  have HL1 := Lib.hid hn1
  replace HB := Lib.hid (below_trans HB.out hb)
  replace C1 := Lib.hid (C1.out.below hb)
  subst eu ex
  clear ho hb hn1
  have c0 := C1.out.c0
  have c1 := C1.out.c1
  have f0 := C1.out.fz 0
  have f1 := C1.out.fz 1
  have l0 := C1.out.lt
  go_wp2_with fail
  refine gen_calls fun w3 hw => ?_
  have HW := Lib.hid hw
  have HN1 := Lib.hid (show w.heap.size ≤ n1 from NN.out)
  replace HB := Lib.hid (show Below w.heap.size w w3 from by rw [HW.out]; exact below_set (below_set HB.out ⟨n1, 0, none⟩ _ HN1.out) ⟨n1, 1, none⟩ _ HN1.out)
  have D2C := Lib.hid (show DeskCell w3 n1 (.slice A2 d2.cs.length ca2) (.slice B2 d2.ks.length cb2) from by rw [HW.out]; exact (C1.out.set0 _).set1 _)
  replace O2 := Lib.hid (show DeskO w3 w2.heap.size (.slice A2 d2.cs.length ca2) (.slice B2 d2.ks.length cb2) d2 from by rw [HW.out]; exact (O2.out.set ⟨n1, 0, none⟩ _ HL1.out).set ⟨n1, 1, none⟩ _ HL1.out)
  clear hw HW C1 c0 c1 f0 f1 l0 O1
  refine (ack_any _ 4 d2 w3 O2.out.read S2.out).mono ?_
  rintro e v3 ⟨u3, x3, rfl, ho, hb⟩
  rw [E3.out]
  rw [FC.out] at ho
  generalize ackK d2 4 = kx at *
  obtain ⟨A3, ca3, B3, cb3, eu, ex⟩ := ho.forms
  have O3 := Lib.hid ho
  replace HB := Lib.hid (below_trans HB.out hb)
  replace D2C := Lib.hid (D2C.out.below hb)
  replace O2 := Lib.hid (O2.out.below hb)
  subst eu ex
  clear ho hb
  have c0 := D2C.out.c0
  have c1 := D2C.out.c1
  have l0 := D2C.out.lt
  go_wp2_with fail
  refine gen_calls fun w4 hw => ?_
  have hb : Below v3.heap.size v3 w4 := by rw [hw]; exact bl_alloc _ (below_alloc _ _)
  have C3 := Lib.hid (show DeskCell w4 v3.heap.size (.slice A3 d3.cs.length ca3) (.slice B3 d3.ks.length cb3) from by rw [hw]; exact (DeskCell.new _ _ rfl).below (below_alloc _ _))
  have K3 := Lib.hid (show CaseC w4 (v3.heap.size + 1) kx from by rw [hw]; exact CaseC.new kx (by simp))
  replace HB := Lib.hid (below_trans HB.out hb)
  replace D2C := Lib.hid (D2C.out.below hb)
  replace O2 := Lib.hid (O2.out.below hb)
  replace O3 := Lib.hid (O3.out.below hb)
  clear hw hb c0 c1 l0
  generalize v3.heap.size = n3 at *
  refine (leave_any _ 1 d2 w4 O2.out.read S2.out).mono ?_
  rintro e v4 ⟨u4, x4, rfl, ho, hb⟩
  rw [E4.out]
  obtain ⟨A4, ca4, B4, cb4, eu, ex⟩ := ho.forms
  replace HB := Lib.hid (below_trans HB.out hb)
  replace D2C := Lib.hid (D2C.out.below hb)
  replace O2 := Lib.hid (O2.out.below hb)
  replace O3 := Lib.hid (O3.out.below hb)
  replace C3 := Lib.hid (C3.out.below hb)
  replace K3 := Lib.hid (K3.out.below hb)
  subst eu ex
  clear ho hb
  have r3 := R3.out
  rw [Bool.and_eq_true] at r3
  have q1 : kx.r.toList = [99, 105, 100] := (eqS_toList r3.1).trans cid_list
  have k1 := K3.out.c1
  have k4 : v4.cell? ⟨n3 + 1, 4, none⟩ = some (.bool true) := by have := K3.out.c4; rw [r3.2] at this; exact this
  have c0 := D2C.out.c0
  have c1 := D2C.out.c1
  have e0 := C3.out.c0
  have e1 := C3.out.c1
  have l0 := D2C.out.lt
  have l1 := C3.out.lt
  have l2 := K3.out.lt
  clear r3
  go_wp2_with fail
  refine gen_calls fun w5 hw => ?_
  have hb : Below v4.heap.size v4 w5 := by rw [hw]; exact below_alloc _ _
  replace HB := Lib.hid (below_trans HB.out hb)
  replace O2 := Lib.hid (O2.out.below hb)
  replace O3 := Lib.hid (O3.out.below hb)
  replace C3 := Lib.hid (C3.out.below hb)
  clear hw hb k1 k4 c0 c1 e0 e1 l0 l1 l2
  refine (unseen_any _ 1 d2 w5 O2.out.read (by rw [KL2.out]; decide)).mono ?_
  rintro e v5 ⟨vv, rfl, ho, hb⟩
  obtain ⟨A5, c5, e5, -⟩ := ho.toP
  rw [U1.out] at e5
  subst e5
  replace HB := Lib.hid (below_trans HB.out hb)
  replace O3 := Lib.hid (O3.out.below hb)
  replace C3 := Lib.hid (C3.out.below hb)
  clear ho hb
  have e0 := C3.out.c0
  have e1 := C3.out.c1
  have l1 := C3.out.lt
  go_wp2_with fail
  refine (unseen_any _ 4 d3 v5 O3.out.read (by have := S3.out.lk; omega)).mono ?_
  rintro e v6 ⟨vv, rfl, ho, hb⟩
  obtain ⟨A6, c6, e6, -⟩ := ho.toP
  rw [U2.out] at e6
  subst e6
  replace HB := Lib.hid (below_trans HB.out hb)
  replace O3 := Lib.hid (O3.out.below hb)
  replace C3 := Lib.hid (C3.out.below hb)
  clear ho hb e0 e1 l1
  have e0 := C3.out.c0
  have e1 := C3.out.c1
  have l1 := C3.out.lt
  go_wp2_with fail
  refine ret_below (check_any _ d3 v6 O3.out.read S3.out) fun v7 hb => ?_
  rw [CC.out]
  replace HB := Lib.hid (below_trans HB.out hb)
  clear hb e0 e1 l1
  go_wp2_with fail
  go_ret
  exact RetB.bool rfl HB.out
end Go.Proofs.Ytjckpammcgeloaa
namespace Go.Proofs.Ytjckpammcgeloaa
open Go.RowKit

theorem cell_block_lt {w : World} {a : Addr} {v : Value} (h : w.cell? a = some v) : a.block < w.heap.size := by
  rcases Nat.lt_or_ge a.block w.heap.size with hlt | hge
  · exact hlt
  · unfold World.cell? at h; simp [Array.getElem?_eq_none hge] at h
theorem open_row {W : World} {x : Addr} {len cap : Nat} {zs : List Int} (hl : len ≤ cap) (hm : cap ≤ maxLen) (hz : zs.length = cap) (hcell : ∀ i, i < zs.length → W.cell? (x.add i) = some (.int .i64 (zs.getD i 0)))
    (hb : ∀ n ∈ zs, -9223372036854775808 ≤ n ∧ n ≤ 9223372036854775807) :
    ∃ ys : List Int, ys.length = len ∧ ys.length ≤ maxLen ∧ IntsAt W (some x) ys ∧ ∀ n ∈ ys, -9223372036854775808 ≤ n ∧ n ≤ 9223372036854775807 := by
  refine ⟨zs.take len, by simp; omega, by simp; omega, fun k hk => ?_, fun n hn => hb n (List.mem_of_mem_take hn)⟩
  have hk' : k < len := by simpa using Nat.lt_of_lt_of_le hk (List.length_take_le _ _)
  have h0 := hcell 0 (by omega)
  have hk0 := hcell k (by omega)
  obtain ⟨b, off, spot⟩ := x
  have hs : spot = none := by simpa [Addr.add] using World.cell?_spot h0
  subst hs
  have hlt := cell_block_lt hk0
  refine ⟨b, off, rfl, ?_, ?_⟩
  · unfold Addr.add at hlt; split at hlt <;> exact hlt
  · have e : (⟨b, off, none⟩ : Addr).add k = ⟨b, off + k, none⟩ := by
      unfold Addr.add; split
      · rename_i h; subst h; rfl
      · rfl
    rw [← e, hk0, nth_eq hk]
    simp [List.getD_eq_getElem?_getD, show k < zs.length by omega]
end Go.Proofs.Ytjckpammcgeloaa
namespace Go.Proofs.Ytjckpammcgeloaa
open Go.RowKit Go.ChangeShapes Go.WideShapes

variable {H : Type} {enc : TypeId × Value → H} {w : World} {base : Nat} {held : Bool}
theorem addr_none (b off j : Nat) : (⟨b, off, none⟩ : Addr).add j = ⟨b, off + j, none⟩ := by
  unfold Addr.add; split
  · rename_i h; subst h; rfl
  · rfl
/-- Elements read one by one, as a slice that can be read. -/
theorem elp_of {α : Type} (E : El α) {a : Addr} {len cap : Nat} (q : Nat → α) (hl : len ≤ cap) (hm : cap ≤ maxLen) (h : ∀ i, i < len → ∀ j, j < E.n → w.cell? ((a.add (i * E.n)).add j) = (E.f (q i))[j]?) :
    ElP E (fun _ => True) w (some a) cap ((List.range len).map q) := by
  have hlen : ((List.range len).map q).length = len := by simp
  have hspot : 0 < len → a.spot = none := fun h0 => by
    have hp := E.pos
    have h1 := h 0 h0 0 hp
    have h2 : (E.f (q 0))[0]? = some ((E.f (q 0))[0]'(by rw [E.len]; exact hp)) := List.getElem?_eq_getElem _
    rw [h2] at h1
    have := World.cell?_spot h1
    simpa [Addr.add] using this
  refine ⟨fun k x hk => ?_, ⟨by rw [hlen]; exact hl, hm, fun e => (by cases e), ?_⟩, fun b off e => .inr trivial⟩
  · have hkl : k < len := by
      rcases Nat.lt_or_ge k len with h1 | h1
      · exact h1
      · rw [List.getElem?_eq_none (by rw [hlen]; exact h1)] at hk; cases hk
    have hx : q k = x := by
      rw [List.getElem?_map, List.getElem?_range hkl] at hk
      injection hk
    have hs := hspot (by omega)
    obtain ⟨b, off, spot⟩ := a
    have hs : spot = none := hs
    subst hs
    have hc := h k hkl
    simp only [addr_none] at hc
    have h0 := hc 0 E.pos
    have h2 : (E.f (q k))[0]? = some ((E.f (q k))[0]'(by rw [E.len]; exact E.pos)) := List.getElem?_eq_getElem _
    rw [h2] at h0
    subst hx
    exact ⟨b, off, rfl, cell_block_lt h0, hc⟩
  · rcases Nat.eq_zero_or_pos len with h0 | h0
    · exact .inl (by rw [hlen]; exact h0)
    · exact .inr fun a' e => by injection e with e; subst e; exact hspot h0
theorem open_texts {n : Nat} {v : Value} {y : DataW H × List MemPlace} (h : DataW.trod enc Try.prog w base (fun _ => true) held n 43 [v] = some y) :
    ∃ (B : Option Addr) (L : List ByteArray) (c : Nat), v = .slice B L.length c ∧ ElP ES (fun _ => True) w B c L ∧ (∀ s ∈ L, s.size ≤ maxLen) ∧ L.length ≤ maxLen := by
  rcases open_strings Try.underlying43 Try.underlying9 (by kernel_rfl) h with ⟨hcs, _⟩ | ⟨a, len, cap, ss, hcs, _, hl, hm, hss, _, hcell, hsz⟩
  · simp only [List.cons.injEq, and_true] at hcs
    exact ⟨none, [], 0, hcs, ElP.nil _ _ _, fun s hs => (by cases hs), by unfold maxLen; simp⟩
  · simp only [List.cons.injEq, and_true] at hcs
    have hss : ss.length = cap := by simpa using hss
    refine ⟨some a, (List.range len).map (fun i => ss.getD i ByteArray.empty), cap, by rw [hcs]; simp, elp_of ES _ hl hm (fun i hi j hj => ?_), fun s hs => ?_, by simp; omega⟩
    · have hj : j < 1 := hj
      obtain rfl : j = 0 := by omega
      have := hcell i (by omega)
      show w.cell? ((a.add (i * 1)).add 0) = some (.string (ss.getD i ByteArray.empty))
      rw [Nat.mul_one, show (a.add i).add 0 = a.add i from rfl, this]
    · obtain ⟨i, hi, rfl⟩ := List.mem_map.1 hs
      have hil : i < ss.length := by have := List.mem_range.1 hi; omega
      refine hsz _ ?_
      rw [List.getD_eq_getElem?_getD, List.getElem?_eq_getElem hil]
      exact List.getElem_mem hil
set_option maxRecDepth 100000 in
theorem open_cases {n : Nat} {v : Value} {y : DataW H × List MemPlace} (h : DataW.trod enc Try.prog w base (fun _ => true) held n 28 [v] = some y) :
    ∃ (B : Option Addr) (L : List CaseD) (c : Nat), v = .slice B L.length c ∧ ElP EK (fun _ => True) w B c L ∧ (∀ x ∈ L, x.r.size ≤ maxLen ∧ x.o.size ≤ maxLen) ∧ L.length ≤ maxLen := by
  rcases Deep.open_slice Try.underlying28 h with ⟨hcs, _⟩ | ⟨a, len, cap, m, n', D, Pl, hcs, _, hl, hm, hmm, _, hx⟩
  · simp only [List.cons.injEq, and_true] at hcs
    exact ⟨none, [], 0, hcs, ElP.nil _ _ _, fun s hs => (by cases hs), by unfold maxLen; simp⟩
  · simp only [List.cons.injEq, and_true] at hcs
    have hmc : m = cap := by simpa using hmm
    have e5 : Try.prog.cellsOf 37 = 5 := by kernel_rfl
    rw [e5] at hx
    have each : ∀ i, i < len → ∃ x : CaseD, (∀ j, j < 5 → w.cell? ((a.add (i * 5)).add j) = (EK.f x)[j]?) ∧ x.r.size ≤ maxLen ∧ x.o.size ≤ maxLen := fun i hi => by
      obtain ⟨cs', hc, ht⟩ := hx i (by omega)
      obtain ⟨_, hcl, hat⟩ := World.cells?_some hc
      obtain ⟨ys, n2, _, _, _, hyl, hf⟩ := DataW.trod_struct Try.underlying37 ht
      match cs', hcl with
      | [c0, c1, c2, c3, c4], _ =>
        match ys, hyl with
        | [y0, y1, y2, y3, y4], _ =>
          have k0 := hf 0 _ rfl
          have k1 := hf 1 _ rfl
          have k2 := hf 2 _ rfl
          have k3 := hf 3 _ rfl
          have k4 := hf 4 _ rfl
          have i1 : Try.prog.cellsOf 3 = 1 := by kernel_rfl
          have i2 : Try.prog.cellsOf 9 = 1 := by kernel_rfl
          have i3 : Try.prog.cellsOf 4 = 1 := by kernel_rfl
          simp [i1, i2, i3] at k0 k1 k2 k3 k4
          obtain ⟨x0, q0, -, -⟩ := DataW.trod_int Try.underlying3 k0
          obtain ⟨x1, q1, -, z1⟩ := DataW.trod_string Try.underlying9 k1
          obtain ⟨x2, q2, -, z2⟩ := DataW.trod_string Try.underlying9 k2
          obtain ⟨x3, q3, -, -⟩ := DataW.trod_int Try.underlying3 k3
          obtain ⟨x4, q4, -⟩ := DataW.trod_bool Try.underlying4 k4
          simp only [List.cons.injEq, and_true] at q0 q1 q2 q3 q4
          subst q0 q1 q2 q3 q4
          exact ⟨⟨x0, x1, x2, x3, x4⟩, fun j hj => hat j hj, z1, z2⟩
    obtain ⟨q, hq⟩ : ∃ q : Nat → CaseD, ∀ i, i < len → (∀ j, j < 5 → w.cell? ((a.add (i * 5)).add j) = (EK.f (q i))[j]?) ∧ (q i).r.size ≤ maxLen ∧ (q i).o.size ≤ maxLen :=
      ⟨fun i => if h : i < len then (each i h).choose else ⟨0, ⟨#[]⟩, ⟨#[]⟩, 0, false⟩, fun i hi => by simp only [dif_pos hi]; exact (each i hi).choose_spec⟩
    refine ⟨some a, (List.range len).map q, cap, by rw [hcs]; simp, elp_of EK q hl hm (fun i hi j hj => (hq i hi).1 j hj), fun x hx => ?_, by simp; omega⟩
    obtain ⟨i, hi, rfl⟩ := List.mem_map.1 hx
    exact (hq i (List.mem_range.1 hi)).2
set_option maxRecDepth 100000 in
theorem open_cous {n : Nat} {v : Value} {y : DataW H × List MemPlace} (h : DataW.trod enc Try.prog w base (fun _ => true) held n 27 [v] = some y) :
    ∃ (B : Option Addr) (C : List CouD) (c : Nat), v = .slice B C.length c ∧ CousP (fun _ => True) w B c C ∧ (∀ x ∈ C, x.o.size ≤ maxLen ∧ x.away.length ≤ maxLen ∧ ∀ s ∈ x.away, s.size ≤ maxLen) ∧ C.length ≤ maxLen := by
  rcases Deep.open_slice Try.underlying27 h with ⟨hcs, _⟩ | ⟨a, len, cap, m, n', D, Pl, hcs, _, hl, hm, hmm, _, hx⟩
  · simp only [List.cons.injEq, and_true] at hcs
    exact ⟨none, [], 0, hcs, CousP.nil _ _, fun s hs => (by cases hs), by unfold maxLen; simp⟩
  · simp only [List.cons.injEq, and_true] at hcs
    have hmc : m = cap := by simpa using hmm
    have e3 : Try.prog.cellsOf 45 = 3 := by kernel_rfl
    rw [e3] at hx
    have each : ∀ i, i < len → ∃ p : CouV × CouD, (∀ j, j < 3 → w.cell? ((a.add (i * 3)).add j) = (EC.f p.1)[j]?) ∧ CouR (fun _ => True) w p.1 p.2 ∧ p.2.o.size ≤ maxLen ∧ p.2.away.length ≤ maxLen ∧ ∀ s ∈ p.2.away, s.size ≤ maxLen := fun i hi => by
      obtain ⟨cs', hc, ht⟩ := hx i (by omega)
      obtain ⟨_, hcl, hat⟩ := World.cells?_some hc
      obtain ⟨ys, n2, _, _, _, hyl, hf⟩ := DataW.trod_struct Try.underlying45 ht
      match cs', hcl with
      | [c0, c1, c2], _ =>
        match ys, hyl with
        | [y0, y1, y2], _ =>
          have k0 := hf 0 _ rfl
          have k1 := hf 1 _ rfl
          have k2 := hf 2 _ rfl
          have i1 : Try.prog.cellsOf 3 = 1 := by kernel_rfl
          have i2 : Try.prog.cellsOf 9 = 1 := by kernel_rfl
          have i3 : Try.prog.cellsOf 43 = 1 := by kernel_rfl
          simp [i1, i2, i3] at k0 k1 k2
          obtain ⟨x0, q0, -, -⟩ := DataW.trod_int Try.underlying3 k0
          obtain ⟨x1, q1, -, z1⟩ := DataW.trod_string Try.underlying9 k1
          obtain ⟨B, L, c, e2, hL, hs, hll⟩ := open_texts k2
          simp only [List.cons.injEq, and_true] at q0 q1
          subst q0 q1 e2
          exact ⟨(⟨x0, x1, B, L.length, c⟩, ⟨x0, x1, L⟩), fun j hj => hat j hj, ⟨rfl, rfl, rfl, hL⟩, z1, hll, hs⟩
    obtain ⟨q, hq⟩ : ∃ q : Nat → CouV × CouD, ∀ i, i < len → (∀ j, j < 3 → w.cell? ((a.add (i * 3)).add j) = (EC.f (q i).1)[j]?) ∧ CouR (fun _ => True) w (q i).1 (q i).2 ∧ (q i).2.o.size ≤ maxLen ∧ (q i).2.away.length ≤ maxLen ∧ ∀ s ∈ (q i).2.away, s.size ≤ maxLen :=
      ⟨fun i => if h : i < len then (each i h).choose else (⟨0, ⟨#[]⟩, none, 0, 0⟩, ⟨0, ⟨#[]⟩, []⟩), fun i hi => by simp only [dif_pos hi]; exact (each i hi).choose_spec⟩
    refine ⟨some a, (List.range len).map (fun i => (q i).2), cap, by rw [hcs]; simp, ⟨(List.range len).map (fun i => (q i).1), elp_of EC _ hl hm (fun i hi j hj => (hq i hi).1 j hj), by simp, fun k hk => ?_⟩, fun x hx => ?_, by simp; omega⟩
    · have hk : k < len := by simpa using hk
      have e1 : vAt ((List.range len).map (fun i => (q i).1)) k = (q k).1 := by simp [vAt, List.getD_eq_getElem?_getD, hk]
      have e2 : cAt ((List.range len).map (fun i => (q i).2)) k = (q k).2 := by simp [cAt, List.getD_eq_getElem?_getD, hk]
      rw [e1, e2]; exact (hq k hk).2.1
    · obtain ⟨i, hi, rfl⟩ := List.mem_map.1 hx
      exact (hq i (List.mem_range.1 hi)).2.2
/-- What holds of a desk that came in. -/
structure DeskIn (W : World) (v : Value) (D : DeskD) : Prop where
  r : DeskR (fun _ => True) W v D
  lc : D.cs.length ≤ maxLen
  lk : D.ks.length ≤ maxLen
  co : ∀ k, k < D.cs.length → (cAt D.cs k).o.size ≤ maxLen ∧ (cAt D.cs k).away.length ≤ maxLen ∧ ShortT (cAt D.cs k).away
  ca : ∀ k, k < D.ks.length → (kAt D.ks k).r.size ≤ maxLen ∧ (kAt D.ks k).o.size ≤ maxLen
theorem open_desk {r : Reach} {b0 : Nat} {v : Value} {d : DataW H} {p : List MemPlace} (hv : Value.okWide Try.prog w r b0 30 v) (h : DataW.Trod enc Try.prog w base (fun _ => true) held 30 v d p) :
    ∃ D : DeskD, DeskIn w v D := by
  obtain ⟨c0, c1, y0, y1, n, rfl, _, _, g0, g1⟩ := Joins.open_agg2 Try.underlying30 (by kernel_rfl) (by kernel_rfl) hv h
  obtain ⟨A, C, ca, rfl, hC, hco, hlc⟩ := open_cous g0
  obtain ⟨B, K, cb, rfl, hK, hka, hlk⟩ := open_cases g1
  refine ⟨⟨C, K⟩, ⟨A, ca, B, cb, rfl, hC, hK⟩, hlc, hlk, fun k hk => ?_, fun k hk => hka _ (List.mem_of_getElem? (kAt_get hk))⟩
  obtain ⟨h1, h2, h3⟩ := hco _ (List.mem_of_getElem? (cAt_get hk))
  exact ⟨h1, h2, fun j hj => h3 _ (List.mem_of_getElem? (sAt_get hj))⟩
end Go.Proofs.Ytjckpammcgeloaa
namespace Go.Proofs.Ytjckpammcgeloaa
open Go.RowKit

set_option maxRecDepth 100000 in
set_option maxHeartbeats 4000000 in
theorem counsellorRaw_walk (v : Value) (D : DeskD) (s0 s1 : ByteArray) (n0 n1 : Int) (w : World) (hD : DeskIn w v D) (hs0 : s0.size ≤ maxLen) (hs1 : s1.size ≤ maxLen) (_ : -9223372036854775808 ≤ n0 ∧ n0 ≤ 9223372036854775807) (_ : -9223372036854775808 ≤ n1 ∧ n1 ≤ 9223372036854775807) :
    Calls Try.prog 6 #[v, .agg #[.string s0, .string s1], .agg #[.int .i64 n0, .int .i64 n1]] w (RetB (.bool true) w) := by
  obtain ⟨⟨A, ca, B, cb, rfl, h1, h2⟩, q1, q2, q3, q4⟩ := hD
  obtain ⟨C, K⟩ := D
  have HCS := Lib.hid h1
  have HKS := Lib.hid h2
  have HCO := Lib.hid q3
  have HCA := Lib.hid q4
  have HS0 := Lib.hid hs0
  have HS1 := Lib.hid hs1
  unfold maxLen at hs0 hs1 q1 q2
  simp only at q1 q2
  clear h1 h2 q3 q4
  go_enter Try.func6, Try.ntmps6
  by_cases h1 : (40 : Int) < (C.length : Int)
  · have h1d : decide ((40 : Int) < (C.length : Int)) = true := decide_eq_true h1
    go_wp2_with fail
    refine gen_calls fun w1 hw1 => ?_
    have HB := Lib.hid (show Below w.heap.size w w1 from by rw [hw1]; exact bl_alloc _ (bl_alloc _ (below_alloc _ _)))
    clear hw1
    refine ret_below (awake32_any w1) fun w2 hb => ?_
    have HB2 := Lib.hid (below_trans HB.out hb)
    clear hb
    go_wp2_with fail
    go_ret
    exact RetB.bool rfl HB2.out
  · have h1d : decide ((40 : Int) < (C.length : Int)) = false := decide_eq_false h1
    by_cases h2 : (40 : Int) < (K.length : Int)
    · have h2d : decide ((40 : Int) < (K.length : Int)) = true := decide_eq_true h2
      go_wp2_with fail
      refine gen_calls fun w1 hw1 => ?_
      have HB := Lib.hid (show Below w.heap.size w w1 from by rw [hw1]; exact bl_alloc _ (bl_alloc _ (below_alloc _ _)))
      clear hw1
      refine ret_below (awake32_any w1) fun w2 hb => ?_
      have HB2 := Lib.hid (below_trans HB.out hb)
      clear hb
      go_wp2_with fail
      go_ret
      exact RetB.bool rfl HB2.out
    · have h2d : decide ((40 : Int) < (K.length : Int)) = false := decide_eq_false h2
      by_cases h3 : (300 : Int) < (s0.size : Int)
      · have h3d : decide ((300 : Int) < (s0.size : Int)) = true := decide_eq_true h3
        go_wp2_with fail
        refine gen_calls fun w1 hw1 => ?_
        have HB := Lib.hid (show Below w.heap.size w w1 from by rw [hw1]; exact bl_alloc _ (bl_alloc _ (below_alloc _ _)))
        clear hw1
        refine ret_below (awake32_any w1) fun w2 hb => ?_
        have HB2 := Lib.hid (below_trans HB.out hb)
        clear hb
        go_wp2_with fail
        go_ret
        exact RetB.bool rfl HB2.out
      · have h3d : decide ((300 : Int) < (s0.size : Int)) = false := decide_eq_false h3
        by_cases h4 : (100 : Int) < (s1.size : Int)
        · have h4d : decide ((100 : Int) < (s1.size : Int)) = true := decide_eq_true h4
          go_wp2_with fail
          refine gen_calls fun w1 hw1 => ?_
          have HB := Lib.hid (show Below w.heap.size w w1 from by rw [hw1]; exact bl_alloc _ (bl_alloc _ (below_alloc _ _)))
          clear hw1
          refine ret_below (awake32_any w1) fun w2 hb => ?_
          have HB2 := Lib.hid (below_trans HB.out hb)
          clear hb
          go_wp2_with fail
          go_ret
          exact RetB.bool rfl HB2.out
        · have h4d : decide ((100 : Int) < (s1.size : Int)) = false := decide_eq_false h4
          have LC := Lib.hid (show C.length ≤ 40 by omega)
          have LK := Lib.hid (show K.length ≤ 40 by omega)
          go_wp2_with fail
          refine gen_world fun w1 hw1 => ?_
          have HB := Lib.hid (show Below w.heap.size w w1 from by rw [hw1]; exact bl_alloc _ (bl_alloc _ (below_alloc _ _)))
          have HC := Lib.hid (show DeskCell w1 w.heap.size (.slice A C.length ca) (.slice B K.length cb) from by rw [hw1]; exact ((DeskCell.new _ _ rfl).below (below_alloc _ _)).below (below_alloc _ _))
          have HT := Lib.hid (show w1.heap[w.heap.size + 1]? = some (.cells #[.string s0, .string s1] 51 (0, 0)) from by rw [hw1]; rw [(below_alloc _ _).block _ (by simp)]; have := heap_alloc_new (w.alloc (.cells #[.slice A C.length ca, .slice B K.length cb] 30)) (.cells #[.string s0, .string s1] 51); simpa using this)
          have HN := Lib.hid (show w1.heap[w.heap.size + 1 + 1]? = some (.cells #[.int .i64 n0, .int .i64 n1] 52 (0, 0)) from by rw [hw1]; have := heap_alloc_new ((w.alloc (.cells #[.slice A C.length ca, .slice B K.length cb] 30)).alloc (.cells #[.string s0, .string s1] 51)) (.cells #[.int .i64 n0, .int .i64 n1] 52); simpa using this)
          clear hw1 h1 h1d h2 h2d h3 h3d h4 h4d
          generalize hbx : w.heap.size = bx at *
          have HBX := Lib.hid hbx
          clear hbx
          have HBW := Lib.hid (fun (W : World) (hb : Below w1.heap.size w1 W) => show Below w.heap.size w W from by rw [HBX.out]; exact HB.out.trans (hb.mono (by have := HC.out.lt; omega)))
          go_loopw [7] (fun i wr => ∃ k : Nat, k ≤ C.length ∧ i = .int .i64 k ∧ (∀ j, j < k → (cAt C j).away.length ≤ 20) ∧ Below w1.heap.size w1 wr) (fun i _ => C.length - (intOf i).toNat)
          case atStart => exact ⟨0, Nat.zero_le _, rfl, fun j hj => absurd hj (by omega), Below.refl _ _⟩
          case round =>
            obtain ⟨k, hk, rfl, hp, hbr⟩ := hrel
            have HP := Lib.hid hp
            have HBR := Lib.hid hbr
            have d0 := (HC.out.below hbr).c0
            have dl := (HC.out.below hbr).lt
            clear hp hbr
            by_cases hlt : k < C.length
            · obtain ⟨b, off, x, rfl, hbl, -, c0, c1, c2, hx⟩ := (HCS.out.below (HBW.out _ HBR.out)).elem hlt
              have hk0 : (0 : Int) ≤ (k : Int) := by omega
              have hkl : (k : Int) < (C.length : Int) := by omega
              have HXN := Lib.hid hx.n
              clear hx
              by_cases ha : (20 : Int) < (x.n : Int)
              · go_wp2_with fail
                refine ret_below (awake32_any wr) fun w2 hb => ?_
                have HB2 := Lib.hid (below_trans (HBW.out _ HBR.out) hb)
                clear hb
                go_wp2_with fail
                go_ret
                exact RetB.bool rfl HB2.out
              · go_wp2_with fail
                go_roundw
                case rel =>
                  refine ⟨k + 1, by omega, by go_num, fun j hj => ?_, HBR.out⟩
                  by_cases e : j = k
                  · subst e; have := HXN.out; omega
                  · exact HP.out j (by omega)
                case measure => simp [intOf]; omega
            · have hkl : ¬ (k : Int) < (C.length : Int) := by omega
              have HS := Lib.hid (show DeskS ⟨C, K⟩ from ⟨by show C.length ≤ 1000; have := LC.out; omega, by show K.length ≤ 1000; have := LK.out; omega, fun j hj => ⟨(HCO.out j hj).1, by have := HP.out j (by have hj : j < C.length := hj; omega); show (cAt C j).away.length ≤ 1000; omega, (HCO.out j hj).2.2⟩, HCA.out⟩)
              have HBF := Lib.hid (HBW.out _ HBR.out)
              go_wp2_with fail
              refine ret_below (awake32_any wr) fun w2 hb => ?_
              have HB2 := Lib.hid (below_trans HBF.out hb)
              have HBQ := Lib.hid (below_trans HBR.out hb)
              have e0 := (HC.out.below HBQ.out).c0
              have e1 := (HC.out.below HBQ.out).c1
              have el := (HC.out.below HBQ.out).lt
              have t := (HBQ.out.block _ (blk_ltE HT.out)).trans HT.out
              have n := (HBQ.out.block _ (blk_ltE HN.out)).trans HN.out
              have t0 : w2.cell? ⟨bx + 1, 0, none⟩ = some (.string s0) := by rw [cell_of_row _ _ 0 _ _ (0, 0) t]; rfl
              have t1 : w2.cell? ⟨bx + 1, 1, none⟩ = some (.string s1) := by rw [cell_of_row _ _ 1 _ _ (0, 0) t]; rfl
              have m0 : w2.cell? ⟨bx + 1 + 1, 0, none⟩ = some (.int .i64 n0) := by rw [cell_of_row _ _ 0 _ _ (0, 0) n]; rfl
              have m1 : w2.cell? ⟨bx + 1 + 1, 1, none⟩ = some (.int .i64 n1) := by rw [cell_of_row _ _ 1 _ _ (0, 0) n]; rfl
              have tl := blk_ltE t
              have nl := blk_ltE n
              clear hb d0 dl t n
              go_wp2_with fail
              refine ret_below (agree_any (P := fun _ => True) _ s0 s1 n0 n1 ⟨C, K⟩ w2 ⟨_, _, _, _, rfl, HCS.out.below HB2.out, HKS.out.below HB2.out⟩ HS.out (by show K.length ≤ 800; have := LK.out; omega) HS0.out HS1.out) fun w3 hb => ?_
              have HB3 := Lib.hid (below_trans HB2.out hb)
              clear hb e0 e1 el t0 t1 m0 m1 tl nl
              go_wp2_with fail
              go_ret
              exact RetB.bool rfl HB3.out
end Go.Proofs.Ytjckpammcgeloaa
namespace Go.Proofs.Ytjckpammcgeloaa
open Go.ChangeShapes
variable {H : Type} {enc : TypeId × Value → H} {P : Program} {w : World} {base : Nat} {spare : Nat → Bool} {held : Bool}

theorem trod_array2 {t e : TypeId} {fuel : Nat} {c0 c1 : Value} {x : DataW H × List MemPlace} (ht : P.underlying t = some (.array 2 e)) (hce : P.cellsOf e = 1)
    (h : DataW.trod enc P w base spare held fuel t [c0, c1] = some x) :
    ∃ y0 y1 n, x = (.agg [y0.1, y1.1], y0.2 ++ y1.2) ∧ DataW.trod enc P w base spare held n e [c0] = some y0 ∧ DataW.trod enc P w base spare held n e [c1] = some y1 := by
  cases fuel with
  | zero => simp [DataW.trod] at h
  | succ n =>
    unfold DataW.trod at h
    rw [ht] at h
    have r2 : List.range 2 = [0, 1] := rfl
    simp [r2, hce] at h
    obtain ⟨_, h⟩ := h
    cases h0 : DataW.trod enc P w base spare held n e [c0] with
    | none => simp [h0] at h
    | some y0 =>
      cases h1 : DataW.trod enc P w base spare held n e [c1] with
      | none => simp [h0, h1] at h
      | some y1 =>
        simp [h0, h1] at h
        exact ⟨y0, y1, n, h.symm, h0, h1⟩
end Go.Proofs.Ytjckpammcgeloaa
