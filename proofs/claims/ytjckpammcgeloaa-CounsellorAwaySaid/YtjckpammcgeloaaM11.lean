/-
  Desks: equal ones (desks).
  Desks: what the program and the document answer agrees.
  Desks: the sanity check of the statements.
  Desks: words and yes or no by dice; what play.Desk makes.
  Desks: play.Desk under way, its drawn regions.
  Conditions: those that each theorem names.
-/
import Derived.Test.YtjckpammcgeloaaM10
set_option linter.unusedVariables false
set_option linter.unusedSimpArgs false
namespace Go.Proofs.Ytjckpammcgeloaa
open Go.RowKit

theorem sameT_self (S : List ByteArray) : sameT S S = true := sameT_iff.2 rfl
theorem CouC.below {w w' : World} {x : Nat} {id : Int} {o : ByteArray} {v : Value} (h : w.heap[x]? = some (.cells #[.int .i64 id, .string o, v] 45 (0, 0))) (hb : Below w.heap.size w w') : w'.heap[x]? = some (.cells #[.int .i64 id, .string o, v] 45 (0, 0)) := (hb.block x (blk_ltE h)).trans h
set_option maxRecDepth 100000 in
set_option maxHeartbeats 2000000 in
theorem same1_any {P P' : Nat → Prop} (x y : CouV) (d : CouD) (w : World) (hx : CouR P w x d) (hy : CouR P' w y d) (hl : d.away.length ≤ 100000) :
  Calls Try.prog 72 #[couV x, couV y] w (RetB (.bool true) w) := by
 obtain ⟨xi, xo, xA, xn, xc⟩ := x
 obtain ⟨yi, yo, yA, yn, yc⟩ := y
 have e1 : xi = d.id := hx.id
 have e2 : xo = d.o := hx.o
 have e3 : xn = d.away.length := hx.n
 have e4 : yi = d.id := hy.id
 have e5 : yo = d.o := hy.o
 have e6 : yn = d.away.length := hy.n
 have HX := Lib.hid (show ElP ES P w xA xc d.away from hx.away)
 have HY := Lib.hid (show ElP ES P' w yA yc d.away from hy.away)
 subst e1 e2 e3 e4 e5 e6
 clear hx hy
 go_enter Try.func72, Try.ntmps72
 go_wp2_with fail
 refine gen_calls fun w1 hw1 => ?_
 have HB := Lib.hid (show Below w.heap.size w w1 from by rw [hw1]; exact bl_alloc _ (below_alloc _ _))
 clear hw1
 refine ret_below (equalT_any xA yA d.away d.away xc yc w1 (HX.out.below HB.out) (HY.out.below HB.out) hl) fun w2 hb => ?_
 rw [sameT_self]
 have HB2 := Lib.hid (below_trans HB.out hb)
 clear hb
 go_wp2_with fail
 go_ret
 exact RetB.bool rfl HB2.out
set_option maxRecDepth 100000 in
set_option maxHeartbeats 2000000 in
theorem equalFn_any {P P' : Nat → Prop} (A A' : Option Addr) (C : List CouD) (c c' : Nat) (w : World) (hC : CousP P w A c C) (hC' : CousP P' w A' c' C) (hl : C.length ≤ 100000) (ha : ∀ k, k < C.length → (cAt C k).away.length ≤ 100000) :
  Calls Try.prog 71 #[.slice A C.length c, .slice A' C.length c', .func (.func 72) #[] #[]] w (RetB (.bool true) w) := by
 have HC := Lib.hid hC
 have HC2 := Lib.hid hC'
 have HA := Lib.hid ha
 clear hC hC' ha
 go_enter Try.func71, Try.ntmps71
 go_wp2_with fail
 go_loopw [17] (fun i wr => ∃ k : Nat, k ≤ C.length ∧ i = .int .i64 k ∧ Below w.heap.size w wr) (fun i _ => C.length - (intOf i).toNat)
 case atStart => exact ⟨0, Nat.zero_le _, rfl, Below.refl _ _⟩
 case round =>
  obtain ⟨k, hk, rfl, hbr⟩ := hrel
  have HBR := Lib.hid hbr
  by_cases hlt : k < C.length
  ·
   obtain ⟨b, off, x, rfl, hbl, -, c0, c1, c2, hx⟩ := (HC.out.below hbr).elem hlt
   obtain ⟨b', off', y, rfl, hbl', -, d0, d1, d2, hy⟩ := (HC2.out.below hbr).elem hlt
   have hk0 : (0 : Int) ≤ (k : Int) := by omega
   have hkl : (k : Int) < (C.length : Int) := by omega
   have hal := HA.out k hlt
   have HX := Lib.hid hx
   have HY := Lib.hid hy
   clear hx hy hbr
   generalize cAt C k = d at *
   go_wp2_with fail
   refine gen_calls fun w1 hw1 => ?_
   have HB := Lib.hid (show Below wr.heap.size wr w1 from by rw [hw1]; exact bl_alloc _ (below_alloc _ _))
   clear hw1 c0 c1 c2 d0 d1 d2
   refine ret_below (same1_any x y d w1 (HX.out.keep (Kpt.below HB.out)) (HY.out.keep (Kpt.below HB.out)) hal) fun w2 hb => ?_
   have HBF := Lib.hid (below_trans HBR.out (below_trans HB.out hb))
   clear hb
   go_wp2_with fail
   go_roundw
   case rel => exact ⟨k + 1, by omega, by go_num, HBF.out⟩
   case measure => simp [intOf]; omega
  ·
   have hkl : ¬ (k : Int) < (C.length : Int) := by omega
   go_wp2_with fail
   go_ret
   exact RetB.bool rfl HBR.out
set_option maxRecDepth 100000 in
set_option maxHeartbeats 2000000 in
theorem sameD_any {P P' : Nat → Prop} (u v : Value) (D : DeskD) (w : World) (hD : DeskR P w u D) (hE : DeskR P' w v D) (sD : DeskS D) :
  Calls Try.prog 63 #[u, v] w (RetB (.bool true) w) := by
 obtain ⟨A, ca, B, cb, rfl, h1, h2⟩ := hD
 obtain ⟨A', ca', B', cb', rfl, h3, h4⟩ := hE
 have H1 := Lib.hid h1
 have H2 := Lib.hid h2
 have H3 := Lib.hid h3
 have H4 := Lib.hid h4
 have HS := Lib.hid sD
 clear h1 h2 h3 h4 sD
 go_enter Try.func63, Try.ntmps63
 go_wp2_with fail
 refine gen_calls fun w1 hw1 => ?_
 have HB := Lib.hid (show Below w.heap.size w w1 from by rw [hw1]; exact bl_alloc _ (below_alloc _ _))
 have HD1 := Lib.hid (show DeskCell w1 w.heap.size (.slice A D.cs.length ca) (.slice B D.ks.length cb) from by rw [hw1]; exact (DeskCell.new _ _ rfl).below (below_alloc _ _))
 have HD2 := Lib.hid (show DeskCell w1 (w.heap.size + 1) (.slice A' D.cs.length ca') (.slice B' D.ks.length cb') from by rw [hw1]; exact DeskCell.new _ _ (by simp))
 clear hw1
 refine ret_below (equalK_any B B' D.ks cb cb' w1 (H2.out.below HB.out) (H4.out.below HB.out) (by have := HS.out.lk; omega)) fun w2 hb => ?_
 replace HB := Lib.hid (below_trans HB.out hb)
 have d0 := (HD1.out.below hb).c0
 have e0 := (HD2.out.below hb).c0
 have l0 := (HD1.out.below hb).lt
 have l1 := (HD2.out.below hb).lt
 clear hb
 go_wp2_with fail
 refine ret_below (equalFn_any A A' D.cs ca ca' w2 (H1.out.below HB.out) (H3.out.below HB.out) (by have := HS.out.lc; omega) (fun k hk => by have := (HS.out.co k hk).2.1; omega)) fun w3 hb => ?_
 replace HB := Lib.hid (below_trans HB.out hb)
 clear hb d0 e0 l0 l1
 go_wp2_with fail
 go_ret
 exact RetB.bool rfl HB.out

/-! ### Two variables made and filled in one statement -/
abbrev cou0 : Array Value := #[.int .i64 0, .string ⟨#[]⟩, .slice none 0 0]
def CouB (w : World) (n : Nat) (cs : Array Value) : Prop := w.heap[n]? = some (.cells cs 45 (0, 0))
theorem CouB.below {w w' : World} {x : Nat} {cs : Array Value} (h : CouB w x cs) (hb : Below w.heap.size w w') : CouB w' x cs := (hb.block x (blk_ltE h)).trans h
theorem al_cou (w : World) : (Instr.alloc 45 true (.tuple #[])).run Try.prog w = .ok (.pointer (some ⟨w.heap.size, 0, none⟩)) (w.alloc (.cells cou0 45)) := by
 go_simp
theorem st_cou {w : World} {x : Nat} (h : CouB w x cou0) (id : Int) (o : ByteArray) (A : Option Addr) (n c : Nat) : ∃ w', (Instr.storeAt 45 (.pointer (some ⟨x, 0, none⟩)) (.agg #[.int .i64 id, .string o, .slice A n c])).run Try.prog w = .ok () w' ∧ CouB w' x #[.int .i64 id, .string o, .slice A n c] ∧ w'.heap.size = w.heap.size ∧ (∀ k, k ≠ x → w'.heap[k]? = w.heap[k]?) ∧ w.grownBy w' (some x) := by
 have h0 : w.cell? ⟨x, 0, none⟩ = some (.int .i64 0) := by rw [cell_of_row _ _ 0 _ _ (0, 0) h]; rfl
 have h1 : w.cell? ⟨x, 1, none⟩ = some (.string ⟨#[]⟩) := by rw [cell_of_row _ _ 1 _ _ (0, 0) h]; rfl
 have h2 : w.cell? ⟨x, 2, none⟩ = some (.slice none 0 0) := by rw [cell_of_row _ _ 2 _ _ (0, 0) h]; rfl
 have f0 : w.frozen? ⟨x, 0, none⟩ = false := by unfold CouB at h; simp [World.frozen?, h]
 have f1 : w.frozen? ⟨x, 1, none⟩ = false := by unfold CouB at h; simp [World.frozen?, h]
 have f2 : w.frozen? ⟨x, 2, none⟩ = false := by unfold CouB at h; simp [World.frozen?, h]
 have hk : ∀ k, k ≠ x → (((w.setCell ⟨x, 0, none⟩ (.int .i64 id)).setCell ⟨x, 1, none⟩ (.string o)).setCell ⟨x, 2, none⟩ (.slice A n c)).heap[k]? = w.heap[k]? := fun k hk => (Below.heap_setCell _ _ _ k hk).trans ((Below.heap_setCell _ _ _ k hk).trans (Below.heap_setCell _ _ _ k hk))
 refine ⟨((w.setCell ⟨x, 0, none⟩ (.int .i64 id)).setCell ⟨x, 1, none⟩ (.string o)).setCell ⟨x, 2, none⟩ (.slice A n c), by go_simp, ?_, by simp [World.setCell], hk, ⟨rfl, rfl, rfl, by simp [World.setCell], fun k _ hne => hk k (fun e => hne (by rw [e]))⟩⟩
 unfold CouB at h ⊢; simp [World.setCell, Array.getElem?_modify, h]
structure TwJ (W0 : World) (a1 a2 s1 s2 : Nat) (C1 C2 : Array Value) (V : Nat → Value) (L : Nat → Bool) (w : World) : Prop where
 b : Below W0.heap.size W0 w
 p1 : L s1 = true → L a1 = true
 p2 : L s2 = true → L a2 = true
 v1 : L a1 = true → ∃ n, V a1 = .pointer (some ⟨n, 0, none⟩) ∧ W0.heap.size ≤ n ∧ n < w.heap.size ∧ (L s1 = false → CouB w n cou0) ∧ (L s1 = true → CouB w n C1) ∧ (L a2 = true → V a2 ≠ .pointer (some ⟨n, 0, none⟩))
 v2 : L a2 = true → ∃ n, V a2 = .pointer (some ⟨n, 0, none⟩) ∧ W0.heap.size ≤ n ∧ n < w.heap.size ∧ (L s2 = false → CouB w n cou0) ∧ (L s2 = true → CouB w n C2) ∧ (L a1 = true → V a1 ≠ .pointer (some ⟨n, 0, none⟩))
section
variable {W0 w w' : World} {a1 a2 s1 s2 : Nat} {C1 C2 : Array Value} {V : Nat → Value} {L : Nat → Bool}
theorem TwJ.swap (h : TwJ W0 a1 a2 s1 s2 C1 C2 V L w) : TwJ W0 a2 a1 s2 s1 C2 C1 V L w := ⟨h.b, h.p2, h.p1, h.v2, h.v1⟩
theorem TwJ.start (V : Nat → Value) : TwJ W0 a1 a2 s1 s2 C1 C2 V (fun _ => false) W0.drew :=
 ⟨Below.drew (Below.refl _ _), fun e => (by cases e), fun e => (by cases e), fun e => (by cases e), fun e => (by cases e)⟩
theorem TwJ.mv (h : TwJ W0 a1 a2 s1 s2 C1 C2 V L w) (i : Nat) (hi : a1 ≠ i ∧ a2 ≠ i ∧ s1 ≠ i ∧ s2 ≠ i) {v : Value} : TwJ W0 a1 a2 s1 s2 C1 C2 (updV V i v) (upd L i) w := by
 obtain ⟨h1, h2, h3, h4⟩ := hi
 refine ⟨h.b, ?_, ?_, ?_, ?_⟩
 ·
  rw [upd_other _ h1, upd_other _ h3]; exact h.p1
 ·
  rw [upd_other _ h2, upd_other _ h4]; exact h.p2
 ·
  rw [upd_other _ h1, upd_other _ h2, upd_other _ h3, updV_other _ _ h1, updV_other _ _ h2]; exact h.v1
 ·
  rw [upd_other _ h1, upd_other _ h2, upd_other _ h4, updV_other _ _ h1, updV_other _ _ h2]; exact h.v2
theorem TwJ.al1 (h : TwJ W0 a1 a2 s1 s2 C1 C2 V L w) (hn : a1 ≠ a2 ∧ a1 ≠ s1 ∧ a1 ≠ s2) (q : L a1 = false) : TwJ W0 a1 a2 s1 s2 C1 C2 (updV V a1 (.pointer (some ⟨w.heap.size, 0, none⟩))) (upd L a1) (w.alloc (.cells cou0 45)) := by
 have hb := below_alloc w (.cells cou0 45)
 have qs : L s1 = false := by
  cases e : L s1 with
  | false => rfl
  | true => have := h.p1 e; rw [q] at this; cases this
 obtain ⟨h2, h3, h4⟩ := hn
 refine ⟨below_trans h.b (hb.mono (Nat.le_refl _)), ?_, ?_, ?_, ?_⟩
 ·
  rw [upd_same]; exact fun _ => rfl
 ·
  rw [upd_other _ h2.symm, upd_other _ h4.symm]; exact h.p2
 ·
  rw [upd_same, upd_other _ h3.symm, upd_other _ h2.symm, updV_same, updV_other _ _ h2.symm]
  intro _
  refine ⟨_, rfl, h.b.size, by simp, fun _ => heap_alloc_new w _, fun e => (by rw [qs] at e; cases e), fun e e2 => ?_⟩
  obtain ⟨n, r1, -, r3, -⟩ := h.v2 e
  rw [r1] at e2
  injection e2 with e2; injection e2 with e2; injection e2 with e2
  omega
 ·
  rw [upd_same, upd_other _ h2.symm, upd_other _ h4.symm, updV_same, updV_other _ _ h2.symm]
  intro e
  obtain ⟨n, r1, r2, r3, r4, r5, -⟩ := h.v2 e
  refine ⟨n, r1, r2, Nat.lt_of_lt_of_le r3 hb.size, fun e => (r4 e).below hb, fun e => (r5 e).below hb, fun _ e2 => ?_⟩
  injection e2 with e2; injection e2 with e2; injection e2 with e2
  omega
theorem TwJ.al2 (h : TwJ W0 a1 a2 s1 s2 C1 C2 V L w) (hn : a2 ≠ a1 ∧ a2 ≠ s2 ∧ a2 ≠ s1) (q : L a2 = false) : TwJ W0 a1 a2 s1 s2 C1 C2 (updV V a2 (.pointer (some ⟨w.heap.size, 0, none⟩))) (upd L a2) (w.alloc (.cells cou0 45)) := (h.swap.al1 hn q).swap
theorem TwJ.st1 {id : Int} {o : ByteArray} {A : Option Addr} {n c : Nat} (h : TwJ W0 a1 a2 s1 s2 #[.int .i64 id, .string o, .slice A n c] C2 V L w) (hn : s1 ≠ a1 ∧ s1 ≠ a2 ∧ s1 ≠ s2) (qa : L a1 = true) (qs : L s1 = false) :
  ∃ w', (Instr.storeAt 45 (V a1) (.agg #[.int .i64 id, .string o, .slice A n c])).run Try.prog w = .ok () w' ∧ ∀ v, TwJ W0 a1 a2 s1 s2 #[.int .i64 id, .string o, .slice A n c] C2 (updV V s1 v) (upd L s1) w' := by
 obtain ⟨m, r1, r2, r3, r4, -, r6⟩ := h.v1 qa
 obtain ⟨w', t1, t2, t3, t4, t5⟩ := st_cou (r4 qs) id o A n c
 rw [r1]
 refine ⟨w', t1, fun v => ?_⟩
 obtain ⟨h1, h2, h3⟩ := hn
 refine ⟨h.b.trans ((Below.refl W0.heap.size w).grown t5 h.b.size (fun j hj => by injection hj with hj; omega)), ?_, ?_, ?_, ?_⟩
 ·
  rw [upd_other _ h1.symm]; exact fun _ => qa
 ·
  rw [upd_other _ h2.symm, upd_other _ h3.symm]; exact h.p2
 ·
  rw [upd_other _ h1.symm, upd_same, upd_other _ h2.symm, updV_other _ _ h1.symm, updV_other _ _ h2.symm]
  exact fun _ => ⟨m, r1, r2, by omega, fun e => (by cases e), fun _ => t2, r6⟩
 ·
  rw [upd_other _ h1.symm, upd_other _ h2.symm, upd_other _ h3.symm, updV_other _ _ h1.symm, updV_other _ _ h2.symm]
  intro e
  obtain ⟨k, u1, u2, u3, u4, u5, u6⟩ := h.v2 e
  have hkm : k ≠ m := fun e2 => u6 qa (by rw [r1, e2])
  exact ⟨k, u1, u2, by omega, fun e => (t4 k hkm).trans (u4 e), fun e => (t4 k hkm).trans (u5 e), u6⟩
theorem TwJ.st2 {id : Int} {o : ByteArray} {A : Option Addr} {n c : Nat} (h : TwJ W0 a1 a2 s1 s2 C1 #[.int .i64 id, .string o, .slice A n c] V L w) (hn : s2 ≠ a2 ∧ s2 ≠ a1 ∧ s2 ≠ s1) (qa : L a2 = true) (qs : L s2 = false) :
  ∃ w', (Instr.storeAt 45 (V a2) (.agg #[.int .i64 id, .string o, .slice A n c])).run Try.prog w = .ok () w' ∧ ∀ v, TwJ W0 a1 a2 s1 s2 C1 #[.int .i64 id, .string o, .slice A n c] (updV V s2 v) (upd L s2) w' := by
 obtain ⟨w', t1, t2⟩ := h.swap.st1 hn qa qs
 exact ⟨w', t1, fun v => (t2 v).swap⟩
theorem TwJ.fin (h : TwJ W0 a1 a2 s1 s2 C1 C2 V L w) (q1 : L s1 = true) (q2 : L s2 = true) : ∃ n1 n2, V a1 = .pointer (some ⟨n1, 0, none⟩) ∧ V a2 = .pointer (some ⟨n2, 0, none⟩) ∧ CouB w n1 C1 ∧ CouB w n2 C2 := by
 obtain ⟨n1, e1, -, -, -, r1, -⟩ := h.v1 (h.p1 q1)
 obtain ⟨n2, e2, -, -, -, r2, -⟩ := h.v2 (h.p2 q2)
 exact ⟨n1, n2, e1, e2, r1 q1, r2 q2⟩
end
set_option maxRecDepth 100000 in
set_option maxHeartbeats 4000000 in
theorem refSameD_any {P P' : Nat → Prop} (u v : Value) (D : DeskD) (w : World) (hD : DeskR P w u D) (hE : DeskR P' w v D) (sD : DeskS D) :
  Calls Try.prog 20 #[u, v] w (RetB (.bool true) w) := by
 obtain ⟨A, ca, B, cb, rfl, h1, h2⟩ := hD
 obtain ⟨A', ca', B', cb', rfl, h3, h4⟩ := hE
 have H1 := Lib.hid h1
 have H2 := Lib.hid h2
 have H3 := Lib.hid h3
 have H4 := Lib.hid h4
 have HS := Lib.hid sD
 clear h1 h2 h3 h4 sD
 go_enter Try.func20, Try.ntmps20
 go_wp2_with fail
 refine gen_calls fun w1 hw1 => ?_
 have HB := Lib.hid (show Below w.heap.size w w1 from by rw [hw1]; exact bl_alloc _ (below_alloc _ _))
 have HD1 := Lib.hid (show DeskCell w1 w.heap.size (.slice A D.cs.length ca) (.slice B D.ks.length cb) from by rw [hw1]; exact (DeskCell.new _ _ rfl).below (below_alloc _ _))
 have HD2 := Lib.hid (show DeskCell w1 (w.heap.size + 1) (.slice A' D.cs.length ca') (.slice B' D.ks.length cb') from by rw [hw1]; exact DeskCell.new _ _ (by simp))
 clear hw1
 generalize hbx : w.heap.size = bx at *
 have HBX := Lib.hid hbx
 clear hbx
 refine ret_below (sameCases_any B B' D.ks cb cb' w1 (H2.out.below (by rw [HBX.out]; exact HB.out)) (H4.out.below (by rw [HBX.out]; exact HB.out)) (by have := HS.out.lk; omega)) fun w2 hb => ?_
 replace HB := Lib.hid (show Below w.heap.size w w2 from by rw [HBX.out]; exact HB.out.trans (hb.mono (by have := HD1.out.lt; omega)))
 replace HD1 := Lib.hid (HD1.out.below hb)
 replace HD2 := Lib.hid (HD2.out.below hb)
 clear hb
 go_wp2_with fail
 go_loopw [5] (fun i wr => ∃ k : Nat, k ≤ D.cs.length ∧ i = .int .i64 k ∧ Below w2.heap.size w2 wr) (fun i _ => D.cs.length - (intOf i).toNat)
 case atStart => exact ⟨0, Nat.zero_le _, rfl, Below.refl _ _⟩
 case round =>
  obtain ⟨k, hk, rfl, hbr⟩ := hrel
  have HBR := Lib.hid hbr
  have HBW := Lib.hid (below_trans HB.out hbr)
  replace HD1 := Lib.hid (HD1.out.below hbr)
  replace HD2 := Lib.hid (HD2.out.below hbr)
  have d0 := HD1.out.c0
  have l0 := HD1.out.lt
  clear hbr
  by_cases hlt : k < D.cs.length
  ·
   obtain ⟨b, off, x, rfl, hbl, -, c0, c1, c2, hx⟩ := (H1.out.below HBW.out).elem hlt
   obtain ⟨b', off', y, rfl, hbl', -, y0, y1, y2, hy⟩ := (H3.out.below HBW.out).elem hlt
   obtain ⟨xi, xo, xA, xn, xc⟩ := x
   obtain ⟨yi, yo, yA, yn, yc⟩ := y
   have e1 : xi = (cAt D.cs k).id := hx.id
   have e2 : xo = (cAt D.cs k).o := hx.o
   have e3 : xn = (cAt D.cs k).away.length := hx.n
   have e4 : yi = (cAt D.cs k).id := hy.id
   have e5 : yo = (cAt D.cs k).o := hy.o
   have e6 : yn = (cAt D.cs k).away.length := hy.n
   have HX := Lib.hid (show ElP ES P wr xA xc (cAt D.cs k).away from hx.away)
   have HY := Lib.hid (show ElP ES P' wr yA yc (cAt D.cs k).away from hy.away)
   have hal : (cAt D.cs k).away.length ≤ 100000 := by have := (HS.out.co k hlt).2.1; omega
   subst e1 e2 e3 e4 e5 e6
   have hk0 : (0 : Int) ≤ (k : Int) := by omega
   have hkl : (k : Int) < (D.cs.length : Int) := by omega
   have hk9 : (k : Int) ≤ 1000 := by have := HS.out.lc; omega
   have X0 := Lib.hid c0
   have X1 := Lib.hid c1
   have X2 := Lib.hid c2
   have Y0 := Lib.hid y0
   have Y1 := Lib.hid y1
   have Y2 := Lib.hid y2
   have LB := Lib.hid hbl
   have LB2 := Lib.hid hbl'
   clear hx hy c0 c1 c2 y0 y1 y2 hbl hbl'
   generalize cAt D.cs k = d at *
   go_upto_region 6 with fail
   clear d0 l0
   refine wp_region_J2 (GI (R := fun _ _ => True) [Pr.eq (.pointer (some ⟨bx, 0, none⟩)), Pr.eq (.slice (some ⟨b, off, none⟩) D.cs.length ca), Pr.eq (.int .i64 (k : Int)), Pr.eq (.pointer (some ⟨b, off + k * 3, none⟩)), Pr.eq (.agg #[.int .i64 d.id, .string d.o, .slice xA d.away.length xc]), Pr.eq (.pointer (some ⟨bx + 1, 0, none⟩)), Pr.eq (.slice (some ⟨b', off', none⟩) D.cs.length ca'), Pr.eq (.int .i64 (k : Int)), Pr.eq (.pointer (some ⟨b', off' + k * 3, none⟩)), Pr.eq (.agg #[.int .i64 d.id, .string d.o, .slice yA d.away.length yc]), Pr.any, Pr.any, Pr.any, Pr.any] (TwJ wr 10 11 12 13 #[.int .i64 d.id, .string d.o, .slice xA d.away.length xc] #[.int .i64 d.id, .string d.o, .slice yA d.away.length yc])) (by kernel_rfl) (by kernel_rfl) (by kernel_rfl) ?_ ?_ ?_
   case refine_1 => exact fun V => GI.start (TwJ.start V)
   case refine_2 =>
    refine .cons (fun V Ld a W hLi hpre hR hI KK hK => ?_) ?_
    ·
     have o2 := (hR.old 2 (by kernel_rfl)).trans (show _ = Value.pointer (some ⟨bx, 0, none⟩) from rfl)
     exact J_fieldAddr rfl _ (.tmp 2) 0 rfl (by rw [o2]; go_simp) (hK _ _ (hI.put0 0 rfl rfl (hI.st.mv _ (by decide))))
    refine .cons (fun V Ld a W hLi hpre hR hI KK hK => ?_) ?_
    ·
     have f0 := hI.ef hR hpre 0 rfl rfl rfl (by kernel_rfl)
     have c0 := (HD1.out.below hI.st.b).c0
     exact J_load rfl _ (.tmp 30) rfl (by rw [f0]; go_simp) (hK _ _ (hI.put0 1 rfl rfl (hI.st.mv _ (by decide))))
    refine .cons (fun V Ld a W hLi hpre hR hI KK hK => ?_) ?_
    ·
     have o5 := (hR.old 5 (by kernel_rfl)).trans (show _ = Value.int .i64 (k : Int) from rfl)
     exact G_move rfl (.tmp 5) rfl o5 (hK _ _ (hI.put0 2 rfl rfl (hI.st.mv _ (by decide))))
    refine .cons (fun V Ld a W hLi hpre hR hI KK hK => ?_) ?_
    ·
     have f1 := hI.ef hR hpre 1 rfl rfl rfl (by kernel_rfl)
     have f2 := hI.ef hR hpre 2 rfl rfl rfl (by kernel_rfl)
     exact J_indexAddr rfl _ (.tmp 31) (.tmp 32) rfl (by rw [f1, f2]; go_simp <;> (intro h; omega)) (hK _ _ (hI.put0 3 rfl rfl (hI.st.mv _ (by decide))))
    refine .cons (fun V Ld a W hLi hpre hR hI KK hK => ?_) ?_
    ·
     have f3 := hI.ef hR hpre 3 rfl rfl rfl (by kernel_rfl)
     have x0 := (hI.st.b.cell LB.out).trans X0.out
     have x1 := (hI.st.b.cell LB.out).trans X1.out
     have x2 := (hI.st.b.cell LB.out).trans X2.out
     exact J_load rfl _ (.tmp 33) rfl (by rw [f3]; go_simp) (hK _ _ (hI.put0 4 rfl rfl (hI.st.mv _ (by decide))))
    refine .cons (fun V Ld a W hLi hpre hR hI KK hK => ?_) ?_
    ·
     have o3 := (hR.old 3 (by kernel_rfl)).trans (show _ = Value.pointer (some ⟨bx + 1, 0, none⟩) from rfl)
     exact J_fieldAddr rfl _ (.tmp 3) 0 rfl (by rw [o3]; go_simp) (hK _ _ (hI.put0 5 rfl rfl (hI.st.mv _ (by decide))))
    refine .cons (fun V Ld a W hLi hpre hR hI KK hK => ?_) ?_
    ·
     have f5 := hI.ef hR hpre 5 rfl rfl rfl (by kernel_rfl)
     have c0 := (HD2.out.below hI.st.b).c0
     exact J_load rfl _ (.tmp 35) rfl (by rw [f5]; go_simp) (hK _ _ (hI.put0 6 rfl rfl (hI.st.mv _ (by decide))))
    refine .cons (fun V Ld a W hLi hpre hR hI KK hK => ?_) ?_
    ·
     have o5 := (hR.old 5 (by kernel_rfl)).trans (show _ = Value.int .i64 (k : Int) from rfl)
     exact G_move rfl (.tmp 5) rfl o5 (hK _ _ (hI.put0 7 rfl rfl (hI.st.mv _ (by decide))))
    refine .cons (fun V Ld a W hLi hpre hR hI KK hK => ?_) ?_
    ·
     have f6 := hI.ef hR hpre 6 rfl rfl rfl (by kernel_rfl)
     have f7 := hI.ef hR hpre 7 rfl rfl rfl (by kernel_rfl)
     exact J_indexAddr rfl _ (.tmp 36) (.tmp 37) rfl (by rw [f6, f7]; go_simp <;> (intro h; omega)) (hK _ _ (hI.put0 8 rfl rfl (hI.st.mv _ (by decide))))
    refine .cons (fun V Ld a W hLi hpre hR hI KK hK => ?_) ?_
    ·
     have f8 := hI.ef hR hpre 8 rfl rfl rfl (by kernel_rfl)
     have x0 := (hI.st.b.cell LB2.out).trans Y0.out
     have x1 := (hI.st.b.cell LB2.out).trans Y1.out
     have x2 := (hI.st.b.cell LB2.out).trans Y2.out
     exact J_load rfl _ (.tmp 38) rfl (by rw [f8]; go_simp) (hK _ _ (hI.put0 9 rfl rfl (hI.st.mv _ (by decide))))
    refine .cons (fun V Ld a W hLi hpre hR hI KK hK => ?_) ?_
    ·
     exact J_alloc rfl _ rfl (al_cou W) (hK _ _ (hI.put trivial 10 rfl trivial (hI.st.al1 (by decide) hLi)))
    refine .cons (fun V Ld a W hLi hpre hR hI KK hK => ?_) ?_
    ·
     exact J_alloc rfl _ rfl (al_cou W) (hK _ _ (hI.put trivial 11 rfl trivial (hI.st.al2 (by decide) hLi)))
    refine .cons (fun V Ld a W hLi hpre hR hI KK hK => ?_) ?_
    ·
     have p10 := pm hpre 10 (by kernel_rfl)
     have f4 := hI.ef hR hpre 4 rfl rfl rfl (by kernel_rfl)
     obtain ⟨w', hr, hn⟩ := hI.st.st1 (by decide) p10 hLi
     exact J_store rfl _ (.tmp 6) (.tmp 34) rfl (by rw [hR.ev 10 rfl rfl p10, f4]; exact hr) (hK _ _ (hI.put trivial 12 rfl trivial (hn _)))
    refine .cons (fun V Ld a W hLi hpre hR hI KK hK => ?_) trivial
    ·
     have p11 := pm hpre 11 (by kernel_rfl)
     have f9 := hI.ef hR hpre 9 rfl rfl rfl (by kernel_rfl)
     obtain ⟨w', hr, hn⟩ := hI.st.st2 (by decide) p11 hLi
     exact J_store rfl _ (.tmp 7) (.tmp 39) rfl (by rw [hR.ev 11 rfl rfl p11, f9]; exact hr) (hK _ _ (hI.put trivial 13 rfl trivial (hn _)))
   case refine_3 =>
    intro V Ld w9 hLd hI
    obtain ⟨n1, n2, e1, e2, q1, q2⟩ := hI.st.fin (hLd 12 (by decide)) (hLd 13 (by decide))
    have hb9 := hI.st.b
    clear hI hLd
    simp only [finL, putL, Act.put, Nat.reduceAdd]
    rw [e1, e2]
    clear e1 e2
    generalize V 0 = v0, V 1 = v1
    generalize V 2 = v2, V 3 = v3
    generalize V 4 = v4, V 5 = v5
    generalize V 6 = v6, V 7 = v7
    generalize V 8 = v8, V 9 = v9
    clear V
    simp only [List.setIfInBounds_toArray, List.set_cons_succ, List.set_cons_zero]
    have u0 : w9.cell? ⟨n1, 0, none⟩ = some (.int .i64 d.id) := by rw [cell_of_row _ _ 0 _ _ (0, 0) q1]; rfl
    have u1 : w9.cell? ⟨n1, 1, none⟩ = some (.string d.o) := by rw [cell_of_row _ _ 1 _ _ (0, 0) q1]; rfl
    have u2 : w9.cell? ⟨n1, 2, none⟩ = some (.slice xA d.away.length xc) := by rw [cell_of_row _ _ 2 _ _ (0, 0) q1]; rfl
    have t0 : w9.cell? ⟨n2, 0, none⟩ = some (.int .i64 d.id) := by rw [cell_of_row _ _ 0 _ _ (0, 0) q2]; rfl
    have t1 : w9.cell? ⟨n2, 1, none⟩ = some (.string d.o) := by rw [cell_of_row _ _ 1 _ _ (0, 0) q2]; rfl
    have t2 : w9.cell? ⟨n2, 2, none⟩ = some (.slice yA d.away.length yc) := by rw [cell_of_row _ _ 2 _ _ (0, 0) q2]; rfl
    have r1 : (d.id != d.id) = false := by simp
    have r2 : (d.o.toList != d.o.toList) = false := by simp
    have lq1 := blk_ltE q1
    have lq2 := blk_ltE q2
    have HB9 := Lib.hid hb9
    clear q1 q2 hb9
    go_wp2_with fail
    refine ret_below (sameTexts_any xA yA d.away d.away xc yc w9 (HX.out.below HB9.out) (HY.out.below HB9.out) hal) fun w10 hb10 => ?_
    rw [sameT_self]
    have HB10 := Lib.hid (below_trans HBR.out (below_trans HB9.out hb10))
    clear hb10 u0 u1 u2 t0 t1 t2 lq1 lq2
    go_wp2_with fail
    go_roundw
    case rel => exact ⟨k + 1, by omega, by go_num, HB10.out⟩
    case measure => simp [intOf]; omega
  ·
   have hkl : ¬ (k : Int) < (D.cs.length : Int) := by omega
   go_wp2_with fail
   go_ret
   exact RetB.bool rfl HBW.out
set_option maxRecDepth 100000 in
set_option maxHeartbeats 2000000 in
theorem lawSame_any {P P' : Nat → Prop} (u v : Value) (e : Int) (D : DeskD) (w : World) (hD : DeskR P w u D) (hE : DeskR P' w v D) (sD : DeskS D) :
  Calls Try.prog 45 #[u, v, .int .i64 e, .int .i64 e] w (RetB (.bool true) w) := by
 have HD := Lib.hid hD
 have HE := Lib.hid hE
 have HS := Lib.hid sD
 obtain ⟨A, ca, B, cb, rfl, h1, h2⟩ := hD
 obtain ⟨A', ca', B', cb', rfl, h3, h4⟩ := hE
 clear h1 h2 h3 h4 sD
 go_enter Try.func45, Try.ntmps45
 go_wp2_with fail
 refine gen_calls fun w1 hw1 => ?_
 have HB := Lib.hid (show Below w.heap.size w w1 from by rw [hw1]; exact bl_alloc _ (below_alloc _ _))
 have HD1 := Lib.hid (show DeskCell w1 w.heap.size (.slice A D.cs.length ca) (.slice B D.ks.length cb) from by rw [hw1]; exact (DeskCell.new _ _ rfl).below (below_alloc _ _))
 have HD2 := Lib.hid (show DeskCell w1 (w.heap.size + 1) (.slice A' D.cs.length ca') (.slice B' D.ks.length cb') from by rw [hw1]; exact DeskCell.new _ _ (by simp))
 clear hw1
 refine ret_below (refSameD_any _ _ D w1 (HD.out.below HB.out) (HE.out.below HB.out) HS.out) fun w2 hb => ?_
 replace HB := Lib.hid (below_trans HB.out hb)
 have d0 := (HD1.out.below hb).c0
 have d1 := (HD1.out.below hb).c1
 have e0 := (HD2.out.below hb).c0
 have e1 := (HD2.out.below hb).c1
 have l0 := (HD1.out.below hb).lt
 have l1 := (HD2.out.below hb).lt
 clear hb
 go_wp2_with fail
 refine ret_below (sameD_any _ _ D w2 (HD.out.below HB.out) (HE.out.below HB.out) HS.out) fun w3 hb => ?_
 replace HB := Lib.hid (below_trans HB.out hb)
 clear hb d0 d1 e0 e1 l0 l1
 go_wp2_with fail
 go_ret
 exact RetB.bool rfl HB.out
end Go.Proofs.Ytjckpammcgeloaa
namespace Go.Proofs.Ytjckpammcgeloaa
open Go.RowKit

theorem enter_chk (args : Array Value) (w : World) : (callFunc 18 args).run Try.prog w = .ok (.enter 18 args) w :=
 Go.MuLone.run_callFunc_enter Try.func18 (by kernel_rfl) rfl args w
theorem enter_rchk (args : Array Value) (w : World) : (callFunc 19 args).run Try.prog w = .ok (.enter 19 args) w :=
 Go.MuLone.run_callFunc_enter Try.func19 (by kernel_rfl) rfl args w
theorem enter_same (args : Array Value) (w : World) : (callFunc 45 args).run Try.prog w = .ok (.enter 45 args) w :=
 Go.MuLone.run_callFunc_enter Try.func45 (by kernel_rfl) rfl args w
theorem enter_un (args : Array Value) (w : World) : (callFunc 17 args).run Try.prog w = .ok (.enter 17 args) w :=
 Go.MuLone.run_callFunc_enter Try.func17 (by kernel_rfl) rfl args w
theorem enter_sc (args : Array Value) (w : World) : (callFunc 40 args).run Try.prog w = .ok (.enter 40 args) w :=
 Go.MuLone.run_callFunc_enter Try.func40 (by kernel_rfl) rfl args w
def elsP (L : List CaseD) : Pr Bl := ⟨fun v w => ∃ A c, v = .slice A L.length c ∧ ElP EK (fun _ => True) w A c L, fun _ _ _ ⟨A, c, e, h⟩ hb => ⟨A, c, e, h.below hb⟩⟩
theorem elsP_of {w : World} {base : Nat} {v : Value} {L : List CaseD} (h : ElOwn EK 37 w base v L) : (elsP L).p v w := by
 obtain ⟨A, c, e, h⟩ := h.toP
 exact ⟨A, c, e, h.mono fun _ _ _ => trivial⟩
theorem ld_case {w : World} {x : Nat} {d : CaseD} (h : CaseC w x d) : (Instr.loadAt 37 (.pointer (some ⟨x, 0, none⟩))).run Try.prog w = .ok (caseV d) w := by
 have h0 := h.c0
 have h1 := h.c1
 have h2 := h.c2
 have h3 := h.c3
 have h4 := h.c4
 go_simp
theorem giveD_small {D : DeskD} (h : DeskS D) (hk : D.ks.length ≤ 900) (r o : ByteArray) (t : Int) (hr : r.size ≤ maxLen) (ho : o.size ≤ maxLen) : DeskS (giveD D r o t) := by
 unfold giveD
 split
 ·
  refine ⟨h.lc, by simp; omega, h.co, fun k hk => ?_⟩
  simp only [List.length_append, List.length_singleton] at hk
  by_cases e : k < D.ks.length
  ·
   show (kAt (_ ++ _) k).r.size ≤ _ ∧ _
   rw [kAt_app1 e]; exact h.ca k e
  ·
   show (kAt (_ ++ _) k).r.size ≤ _ ∧ (kAt (_ ++ _) k).o.size ≤ _
   rw [kAt_app2 (by omega)]; exact ⟨hr, ho⟩
 ·
  exact h
theorem small_nil : DeskS ⟨[], []⟩ := ⟨by simp, by simp, fun k hk => absurd hk (by simp), fun k hk => absurd hk (by simp)⟩
theorem ackD_small {D : DeskD} (h : DeskS D) (id : Int) : DeskS (ackD D id) := by
 unfold ackD
 split
 ·
  refine ⟨h.lc, by simpa using h.lk, h.co, fun k hk => ?_⟩
  have hk : k < D.ks.length := by simpa using hk
  show (kAt (D.ks.set _ _) k).r.size ≤ _ ∧ (kAt (D.ks.set _ _) k).o.size ≤ _
  have hk2 := kAt_get (K := D.ks.set (unI D id).toNat (seenK (kAt D.ks (unI D id).toNat))) (k := k) (by simpa using hk)
  by_cases e : (unI D id).toNat = k
  ·
   rw [e] at hk2 ⊢
   rw [List.getElem?_set_self hk] at hk2
   injection hk2 with hk2
   rw [← hk2]; exact h.ca k hk
  ·
   rw [List.getElem?_set_ne e, kAt_get hk] at hk2
   injection hk2 with hk2
   rw [← hk2]; exact h.ca k hk
 ·
  exact small_nil
theorem lvD_small : ∀ (l : List CaseD) (O : DeskD), DeskS O → (∀ x ∈ l, x.r.size ≤ maxLen ∧ x.o.size ≤ maxLen) → O.ks.length + l.length ≤ 900 → DeskS (lvD l O)
 | [], O, h, _, _ => h
 | x :: l, O, h, hl, hn => by
  have h1 := hl x (List.mem_cons_self ..)
  refine lvD_small l _ (giveD_small h (by simp at hn; omega) _ _ _ h1.1 h1.2) (fun y hy => hl y (List.mem_cons_of_mem _ hy)) ?_
  have : (giveD O x.r x.o (lvT O x)).ks.length ≤ O.ks.length + 1 := by unfold giveD; split <;> simp
  simp at hn; omega
theorem leaveD_small {D : DeskD} (h : DeskS D) (id : Int) : DeskS (leaveD D id) := by
 unfold leaveD
 split
 ·
  rename_i he
  obtain ⟨hv, hf⟩ := leave_pos he
  have p := (leave_parts D.ks id).1
  have hlk := hv.lk
  refine lvD_small _ _ ((LvI.start h).small h (by omega)) (fun x hx => ?_) (by show (D.ks.filter _).length + _ ≤ _; omega)
  obtain ⟨i, hi, e⟩ := kAt_of (List.mem_filter.1 hx).1
  rw [← e]; exact h.ca i hi
 ·
  exact h
set_option maxRecDepth 100000 in
set_option maxHeartbeats 4000000 in
theorem agree_any {P : Nat → Prop} (v : Value) (r o : ByteArray) (t id : Int) (D : DeskD) (w : World) (hD : DeskR P w v D) (sD : DeskS D) (hk : D.ks.length ≤ 800) (hr : r.size ≤ maxLen) (ho : o.size ≤ maxLen) :
  Calls Try.prog 21 #[v, .string r, .string o, .int .i64 t, .int .i64 id] w (RetB (.bool true) w) := by
 have HD := Lib.hid hD
 have HS := Lib.hid sD
 have HR := Lib.hid hr
 have SG := Lib.hid (giveD_small sD (by omega) r o t hr ho)
 have SA := Lib.hid (ackD_small sD id)
 have SL := Lib.hid (leaveD_small sD id)
 have HUL := Lib.hid (show (unseenL D.ks id).length ≤ 100000 from Nat.le_trans (List.length_filter_le _ _) (by omega))
 have HKL := Lib.hid (show D.ks.length ≤ 10000 by omega)
 obtain ⟨A, ca, B, cb, rfl, h1, h2⟩ := hD
 clear h1 h2 sD hk hr ho
 go_enter Try.func21, Try.ntmps21
 go_wp2_with fail
 refine gen_calls fun w1 hw1 => ?_
 have HB := Lib.hid (show Below w.heap.size w w1 from by rw [hw1]; exact below_alloc _ _)
 have C0 := Lib.hid (show DeskCell w1 w.heap.size (.slice A D.cs.length ca) (.slice B D.ks.length cb) from by rw [hw1]; exact DeskCell.new _ _ rfl)
 clear hw1
 generalize hbx : w.heap.size = bx at *
 have HBX := Lib.hid hbx
 clear hbx
 replace HB := Lib.hid (show Below w.heap.size w w1 from by rw [HBX.out]; exact HB.out)
 generalize hge : giveE D r o t = ge at *
 generalize hgi : giveI D r o t = gi at *
 generalize hae : ackE D id = ae at *
 generalize hle : leaveE D id = le at *
 generalize hkx : ackK D id = kx at *
 have GE := Lib.hid hge
 have HGI := Lib.hid hgi
 have AE := Lib.hid hae
 have LE := Lib.hid hle
 have KX := Lib.hid hkx
 clear hge hgi hae hle hkx
 refine (give_any _ r o t D w1 (HD.out.below HB.out) HS.out HR.out).mono ?_
 rintro e v1 ⟨u1, x1, rfl, ho, hb⟩
 rw [HGI.out, GE.out]
 replace HB := Lib.hid (below_trans HB.out hb)
 replace C0 := Lib.hid (C0.out.below hb)
 obtain ⟨A1, ca1, B1, cb1, eu, ex⟩ := ho.forms
 have O1 := Lib.hid ho
 have EU1 := Lib.hid eu
 have EX1 := Lib.hid ex
 subst eu ex
 clear ho hb
 have c0 := C0.out.c0
 have c1 := C0.out.c1
 have l0 := C0.out.lt
 go_wp2_with fail
 refine gen_calls fun w2 hw => ?_
 have hb : Below v1.heap.size v1 w2 := by rw [hw]; exact below_alloc _ _
 have C1 := Lib.hid (show DeskCell w2 v1.heap.size (.slice A1 (giveD D r o t).cs.length ca1) (.slice B1 (giveD D r o t).ks.length cb1) from by rw [hw]; exact DeskCell.new _ _ rfl)
 replace HB := Lib.hid (below_trans HB.out hb)
 replace C0 := Lib.hid (C0.out.below hb)
 replace O1 := Lib.hid (O1.out.below hb)
 clear hw hb c0 c1 l0
 generalize v1.heap.size = n1 at *
 refine (refGive_any _ r o t D w2 (HD.out.below HB.out) HS.out).mono ?_
 rintro e v2 ⟨u2, x2, rfl, ho, hb⟩
 rw [HGI.out, GE.out]
 replace HB := Lib.hid (below_trans HB.out hb)
 replace C0 := Lib.hid (C0.out.below hb)
 replace C1 := Lib.hid (C1.out.below hb)
 replace O1 := Lib.hid (O1.out.below hb)
 obtain ⟨A2, ca2, B2, cb2, eu, ex⟩ := ho.forms
 have O2 := Lib.hid ho
 have EU2 := Lib.hid eu
 have EX2 := Lib.hid ex
 subst eu ex
 clear ho hb
 have c0 := C0.out.c0
 have c1 := C0.out.c1
 have l0 := C0.out.lt
 go_wp2_with fail
 refine gen_calls fun w3 hw => ?_
 have hb : Below v2.heap.size v2 w3 := by rw [hw]; exact below_alloc _ _
 have C2 := Lib.hid (show DeskCell w3 v2.heap.size (.slice A2 (giveD D r o t).cs.length ca2) (.slice B2 (giveD D r o t).ks.length cb2) from by rw [hw]; exact DeskCell.new _ _ rfl)
 replace HB := Lib.hid (below_trans HB.out hb)
 replace C0 := Lib.hid (C0.out.below hb)
 replace C1 := Lib.hid (C1.out.below hb)
 replace O1 := Lib.hid (O1.out.below hb)
 replace O2 := Lib.hid (O2.out.below hb)
 clear hw hb c0 c1 l0
 generalize v2.heap.size = n2 at *
 refine (ack_any _ id D w3 (HD.out.below HB.out) HS.out).mono ?_
 rintro e v3 ⟨u3, x3, rfl, ho, hb⟩
 rw [KX.out, AE.out]
 replace HB := Lib.hid (below_trans HB.out hb)
 replace C0 := Lib.hid (C0.out.below hb)
 replace C1 := Lib.hid (C1.out.below hb)
 replace C2 := Lib.hid (C2.out.below hb)
 replace O1 := Lib.hid (O1.out.below hb)
 replace O2 := Lib.hid (O2.out.below hb)
 obtain ⟨A3, ca3, B3, cb3, eu, ex⟩ := ho.forms
 have O3 := Lib.hid ho
 have EU3 := Lib.hid eu
 have EX3 := Lib.hid ex
 subst eu ex
 clear ho hb
 have c0 := C0.out.c0
 have c1 := C0.out.c1
 have l0 := C0.out.lt
 go_wp2_with fail
 refine gen_calls fun w4 hw => ?_
 have hb : Below v3.heap.size v3 w4 := by rw [hw]; exact bl_alloc _ (below_alloc _ _)
 have C3 := Lib.hid (show DeskCell w4 v3.heap.size (.slice A3 (ackD D id).cs.length ca3) (.slice B3 (ackD D id).ks.length cb3) from by rw [hw]; exact (DeskCell.new _ _ rfl).below (below_alloc _ _))
 have K3 := Lib.hid (show CaseC w4 (v3.heap.size + 1) kx from by rw [hw]; exact CaseC.new kx (by simp))
 replace HB := Lib.hid (below_trans HB.out hb)
 replace C0 := Lib.hid (C0.out.below hb)
 replace C1 := Lib.hid (C1.out.below hb)
 replace C2 := Lib.hid (C2.out.below hb)
 replace O1 := Lib.hid (O1.out.below hb)
 replace O2 := Lib.hid (O2.out.below hb)
 replace O3 := Lib.hid (O3.out.below hb)
 clear hw hb c0 c1 l0
 generalize v3.heap.size = n3 at *
 generalize n3 + 1 = k3 at *
 refine (refAck_any _ id D w4 (HD.out.below HB.out) HS.out).mono ?_
 rintro e v4 ⟨u4, x4, rfl, ho, hb⟩
 rw [KX.out, AE.out]
 replace HB := Lib.hid (below_trans HB.out hb)
 replace C0 := Lib.hid (C0.out.below hb)
 replace C1 := Lib.hid (C1.out.below hb)
 replace C2 := Lib.hid (C2.out.below hb)
 replace C3 := Lib.hid (C3.out.below hb)
 replace O1 := Lib.hid (O1.out.below hb)
 replace O2 := Lib.hid (O2.out.below hb)
 replace O3 := Lib.hid (O3.out.below hb)
 replace K3 := Lib.hid (K3.out.below hb)
 obtain ⟨A4, ca4, B4, cb4, eu, ex⟩ := ho.forms
 have O4 := Lib.hid ho
 have EU4 := Lib.hid eu
 have EX4 := Lib.hid ex
 subst eu ex
 clear ho hb
 have c0 := C0.out.c0
 have c1 := C0.out.c1
 have l0 := C0.out.lt
 go_wp2_with fail
 refine gen_calls fun w5 hw => ?_
 have hb : Below v4.heap.size v4 w5 := by rw [hw]; exact bl_alloc _ (below_alloc _ _)
 have C4 := Lib.hid (show DeskCell w5 v4.heap.size (.slice A4 (ackD D id).cs.length ca4) (.slice B4 (ackD D id).ks.length cb4) from by rw [hw]; exact (DeskCell.new _ _ rfl).below (below_alloc _ _))
 have K4 := Lib.hid (show CaseC w5 (v4.heap.size + 1) kx from by rw [hw]; exact CaseC.new kx (by simp))
 replace HB := Lib.hid (below_trans HB.out hb)
 replace C0 := Lib.hid (C0.out.below hb)
 replace C1 := Lib.hid (C1.out.below hb)
 replace C2 := Lib.hid (C2.out.below hb)
 replace C3 := Lib.hid (C3.out.below hb)
 replace O1 := Lib.hid (O1.out.below hb)
 replace O2 := Lib.hid (O2.out.below hb)
 replace O3 := Lib.hid (O3.out.below hb)
 replace O4 := Lib.hid (O4.out.below hb)
 replace K3 := Lib.hid (K3.out.below hb)
 clear hw hb c0 c1 l0
 generalize v4.heap.size = n4 at *
 generalize n4 + 1 = k4 at *
 refine (leave_any _ id D w5 (HD.out.below HB.out) HS.out).mono ?_
 rintro e v5 ⟨u5, x5, rfl, ho, hb⟩
 rw [LE.out]
 replace HB := Lib.hid (below_trans HB.out hb)
 replace C0 := Lib.hid (C0.out.below hb)
 replace C1 := Lib.hid (C1.out.below hb)
 replace C2 := Lib.hid (C2.out.below hb)
 replace C3 := Lib.hid (C3.out.below hb)
 replace C4 := Lib.hid (C4.out.below hb)
 replace O1 := Lib.hid (O1.out.below hb)
 replace O2 := Lib.hid (O2.out.below hb)
 replace O3 := Lib.hid (O3.out.below hb)
 replace O4 := Lib.hid (O4.out.below hb)
 replace K3 := Lib.hid (K3.out.below hb)
 replace K4 := Lib.hid (K4.out.below hb)
 obtain ⟨A5, ca5, B5, cb5, eu, ex⟩ := ho.forms
 have O5 := Lib.hid ho
 have EU5 := Lib.hid eu
 have EX5 := Lib.hid ex
 subst eu ex
 clear ho hb
 have c0 := C0.out.c0
 have c1 := C0.out.c1
 have l0 := C0.out.lt
 go_wp2_with fail
 refine gen_calls fun w6 hw => ?_
 have hb : Below v5.heap.size v5 w6 := by rw [hw]; exact below_alloc _ _
 have C5 := Lib.hid (show DeskCell w6 v5.heap.size (.slice A5 (leaveD D id).cs.length ca5) (.slice B5 (leaveD D id).ks.length cb5) from by rw [hw]; exact DeskCell.new _ _ rfl)
 replace HB := Lib.hid (below_trans HB.out hb)
 replace C0 := Lib.hid (C0.out.below hb)
 replace C1 := Lib.hid (C1.out.below hb)
 replace C2 := Lib.hid (C2.out.below hb)
 replace C3 := Lib.hid (C3.out.below hb)
 replace C4 := Lib.hid (C4.out.below hb)
 replace O1 := Lib.hid (O1.out.below hb)
 replace O2 := Lib.hid (O2.out.below hb)
 replace O3 := Lib.hid (O3.out.below hb)
 replace O4 := Lib.hid (O4.out.below hb)
 replace O5 := Lib.hid (O5.out.below hb)
 replace K3 := Lib.hid (K3.out.below hb)
 replace K4 := Lib.hid (K4.out.below hb)
 clear hw hb c0 c1 l0
 generalize v5.heap.size = n5 at *
 refine (refLeave_any _ id D w6 (HD.out.below HB.out) HS.out).mono ?_
 rintro e v6 ⟨u6, x6, rfl, ho, hb⟩
 rw [LE.out]
 replace HB := Lib.hid (below_trans HB.out hb)
 replace C0 := Lib.hid (C0.out.below hb)
 replace C1 := Lib.hid (C1.out.below hb)
 replace C2 := Lib.hid (C2.out.below hb)
 replace C3 := Lib.hid (C3.out.below hb)
 replace C4 := Lib.hid (C4.out.below hb)
 replace C5 := Lib.hid (C5.out.below hb)
 replace O1 := Lib.hid (O1.out.below hb)
 replace O2 := Lib.hid (O2.out.below hb)
 replace O3 := Lib.hid (O3.out.below hb)
 replace O4 := Lib.hid (O4.out.below hb)
 replace O5 := Lib.hid (O5.out.below hb)
 replace K3 := Lib.hid (K3.out.below hb)
 replace K4 := Lib.hid (K4.out.below hb)
 obtain ⟨A6, ca6, B6, cb6, eu, ex⟩ := ho.forms
 have O6 := Lib.hid ho
 have EU6 := Lib.hid eu
 have EX6 := Lib.hid ex
 subst eu ex
 clear ho hb
 have c0 := C0.out.c0
 have c1 := C0.out.c1
 have l0 := C0.out.lt
 go_upto_region 7 with fail
 refine gen_world fun w7 hw => ?_
 have hb : Below v6.heap.size v6 w7 := by rw [hw]; exact below_alloc _ _
 have C6 := Lib.hid (show DeskCell w7 v6.heap.size (.slice A6 (leaveD D id).cs.length ca6) (.slice B6 (leaveD D id).ks.length cb6) from by rw [hw]; exact DeskCell.new _ _ rfl)
 replace HB := Lib.hid (below_trans HB.out hb)
 replace C0 := Lib.hid (C0.out.below hb)
 replace C1 := Lib.hid (C1.out.below hb)
 replace C2 := Lib.hid (C2.out.below hb)
 replace C3 := Lib.hid (C3.out.below hb)
 replace C4 := Lib.hid (C4.out.below hb)
 replace C5 := Lib.hid (C5.out.below hb)
 replace O1 := Lib.hid (O1.out.below hb)
 replace O2 := Lib.hid (O2.out.below hb)
 replace O3 := Lib.hid (O3.out.below hb)
 replace O4 := Lib.hid (O4.out.below hb)
 replace O5 := Lib.hid (O5.out.below hb)
 replace O6 := Lib.hid (O6.out.below hb)
 replace K3 := Lib.hid (K3.out.below hb)
 replace K4 := Lib.hid (K4.out.below hb)
 clear hw hb c0 c1 l0
 generalize v6.heap.size = n6 at *
 have HD0 := Lib.hid (HD.out.below HB.out)
 generalize hu1 : Value.slice A1 (giveD D r o t).cs.length ca1 = u1 at *
 generalize hx1 : Value.slice B1 (giveD D r o t).ks.length cb1 = x1 at *
 generalize hu2 : Value.slice A2 (giveD D r o t).cs.length ca2 = u2 at *
 generalize hx2 : Value.slice B2 (giveD D r o t).ks.length cb2 = x2 at *
 generalize hu3 : Value.slice A3 (ackD D id).cs.length ca3 = u3 at *
 generalize hx3 : Value.slice B3 (ackD D id).ks.length cb3 = x3 at *
 generalize hu4 : Value.slice A4 (ackD D id).cs.length ca4 = u4 at *
 generalize hx4 : Value.slice B4 (ackD D id).ks.length cb4 = x4 at *
 generalize hu5 : Value.slice A5 (leaveD D id).cs.length ca5 = u5 at *
 generalize hx5 : Value.slice B5 (leaveD D id).ks.length cb5 = x5 at *
 generalize hu6 : Value.slice A6 (leaveD D id).cs.length ca6 = u6 at *
 generalize hx6 : Value.slice B6 (leaveD D id).ks.length cb6 = x6 at *
 clear hu1 hx1 hu2 hx2 hu3 hx3 hu4 hx4 hu5 hx5 hu6 hx6
 refine wp_region_J2 (GI (R := Bl) [Pr.eq (.agg #[.slice A D.cs.length ca, .slice B D.ks.length cb]), Pr.eq (.int .i64 (chkE D)), Pr.eq (.agg #[.slice A D.cs.length ca, .slice B D.ks.length cb]), Pr.eq (.int .i64 (chkE D)), Pr.eq (.bool true), Pr.eq (.bool true), Pr.eq (.agg #[u1, x1]), Pr.eq (.agg #[u2, x2]), Pr.eq (.int .i64 ge), Pr.eq (.int .i64 ge), Pr.eq (.bool true), Pr.eq (.bool true), Pr.eq (.bool true), Pr.eq (.int .i64 gi), Pr.eq (.int .i64 gi), Pr.eq (.bool true), Pr.eq (.bool true), Pr.eq (.bool true), Pr.eq (.agg #[u3, x3]), Pr.eq (.agg #[u4, x4]), Pr.eq (.int .i64 ae), Pr.eq (.int .i64 ae), Pr.eq (.bool true), Pr.eq (.bool true), Pr.eq (.bool true), Pr.eq (caseV kx), Pr.eq (caseV kx), Pr.eq (.bool true), Pr.eq (.bool true), Pr.eq (.bool true), Pr.eq (.agg #[u5, x5]), Pr.eq (.agg #[u6, x6]), Pr.eq (.int .i64 le), Pr.eq (.int .i64 le), Pr.eq (.bool true), Pr.eq (.bool true), Pr.eq (.bool true), Pr.eq (.agg #[.slice A D.cs.length ca, .slice B D.ks.length cb]), Pr.eq (.int .i64 id), elsP (unseenL D.ks id), Pr.eq (.agg #[.slice A D.cs.length ca, .slice B D.ks.length cb]), Pr.eq (.int .i64 id), elsP (unseenL D.ks id), Pr.eq (.bool true), Pr.eq (.bool true), Pr.eq (.bool true)] (GrS w7)) (by kernel_rfl) (by kernel_rfl) (by kernel_rfl) ?_ ?_ ?_
 case refine_1 => exact fun V => GI.start (GrS.start _ _ _)
 case refine_2 =>
  refine .cons (fun V Ld a W hLi hpre hR hI KK hK => ?_) ?_
  ·
   have o5 := (hR.old 5 (by kernel_rfl)).trans (show _ = Value.pointer (some ⟨bx, 0, none⟩) from rfl)
   exact J_load rfl _ (.tmp 5) rfl (by rw [o5]; exact ld_desk (C0.out.below hI.st.bl)) (hI.u0 hK rfl)
  refine .cons (fun V Ld a W hLi hpre hR hI KK hK => ?_) ?_
  ·
   have f0 := hI.ef hR hpre 0 rfl rfl rfl (by kernel_rfl)
   refine J_call rfl _ _ _ rfl enter_chk (by simp only [List.map_toArray, List.map_cons, List.map_nil, f0]) (check_any _ D W (HD0.out.below hI.st.bl) HS.out) ?_
   rintro e w' ⟨rfl, hb⟩
   exact ⟨_, rfl, hK _ _ (hI.put (R := Bl) hb 1 rfl rfl (hI.st.to hb))⟩
  refine .cons (fun V Ld a W hLi hpre hR hI KK hK => ?_) ?_
  ·
   have o5 := (hR.old 5 (by kernel_rfl)).trans (show _ = Value.pointer (some ⟨bx, 0, none⟩) from rfl)
   exact J_load rfl _ (.tmp 5) rfl (by rw [o5]; exact ld_desk (C0.out.below hI.st.bl)) (hI.u0 hK rfl)
  refine .cons (fun V Ld a W hLi hpre hR hI KK hK => ?_) ?_
  ·
   have f2 := hI.ef hR hpre 2 rfl rfl rfl (by kernel_rfl)
   refine J_call rfl _ _ _ rfl enter_rchk (by simp only [List.map_toArray, List.map_cons, List.map_nil, f2]) (refCheck_any _ D W (HD0.out.below hI.st.bl) HS.out) ?_
   rintro e w' ⟨rfl, hb⟩
   exact ⟨_, rfl, hK _ _ (hI.put (R := Bl) hb 3 rfl rfl (hI.st.to hb))⟩
  refine .cons (fun V Ld a W hLi hpre hR hI KK hK => ?_) ?_
  ·
   have f1 := hI.ef hR hpre 1 rfl rfl rfl (by kernel_rfl)
   have f3 := hI.ef hR hpre 3 rfl rfl rfl (by kernel_rfl)
   exact J_binOp rfl .eql _ (.tmp 72) (.tmp 74) _ rfl (by rw [f1, f3]; go_simp) (hI.u0 hK rfl)
  refine .mf 4 rfl rfl rfl rfl rfl (by kernel_rfl) rfl ?_
  refine .cons (fun V Ld a W hLi hpre hR hI KK hK => ?_) ?_
  ·
   refine G_gw hI hR hpre 5 rfl rfl rfl rfl (by kernel_rfl) ?_
   have o11 := (hR.old 11 (by kernel_rfl)).trans (show _ = Value.pointer (some ⟨n1, 0, none⟩) from rfl)
   exact J_load rfl _ (.tmp 11) rfl (by rw [o11]; exact ld_desk (C1.out.below hI.st.bl)) (hI.u0 hK rfl)
  refine .cons (fun V Ld a W hLi hpre hR hI KK hK => ?_) ?_
  ·
   refine G_gw hI hR hpre 5 rfl rfl rfl rfl (by kernel_rfl) ?_
   have o14 := (hR.old 14 (by kernel_rfl)).trans (show _ = Value.pointer (some ⟨n2, 0, none⟩) from rfl)
   exact J_load rfl _ (.tmp 14) rfl (by rw [o14]; exact ld_desk (C2.out.below hI.st.bl)) (hI.u0 hK rfl)
  refine .cons (fun V Ld a W hLi hpre hR hI KK hK => ?_) ?_
  ·
   refine G_gw hI hR hpre 5 rfl rfl rfl rfl (by kernel_rfl) ?_
   have o13 := (hR.old 13 (by kernel_rfl)).trans (show _ = Value.int .i64 ge from rfl)
   exact G_move rfl (.tmp 13) rfl o13 (hI.u0 hK rfl)
  refine .cons (fun V Ld a W hLi hpre hR hI KK hK => ?_) ?_
  ·
   refine G_gw hI hR hpre 5 rfl rfl rfl rfl (by kernel_rfl) ?_
   have o16 := (hR.old 16 (by kernel_rfl)).trans (show _ = Value.int .i64 ge from rfl)
   exact G_move rfl (.tmp 16) rfl o16 (hI.u0 hK rfl)
  refine .cons (fun V Ld a W hLi hpre hR hI KK hK => ?_) ?_
  ·
   refine G_gw hI hR hpre 5 rfl rfl rfl rfl (by kernel_rfl) ?_
   have f6 := hI.ef hR hpre 6 rfl rfl rfl (by kernel_rfl)
   have f7 := hI.ef hR hpre 7 rfl rfl rfl (by kernel_rfl)
   have f8 := hI.ef hR hpre 8 rfl rfl rfl (by kernel_rfl)
   have f9 := hI.ef hR hpre 9 rfl rfl rfl (by kernel_rfl)
   refine J_call rfl _ _ _ rfl enter_same (by simp only [List.map_toArray, List.map_cons, List.map_nil, f6, f7, f8, f9]) (lawSame_any _ _ ge _ W (O1.out.below hI.st.bl).read (O2.out.below hI.st.bl).read SG.out) ?_
   rintro e w' ⟨rfl, hb⟩
   exact ⟨_, rfl, hK _ _ (hI.put (R := Bl) hb 10 rfl rfl (hI.st.to hb))⟩
  refine .cons (fun V Ld a W hLi hpre hR hI KK hK => ?_) ?_
  ·
   have f5 := hI.ef hR hpre 5 rfl rfl rfl (by kernel_rfl)
   have f10 := hI.ef hR hpre 10 rfl rfl rfl (by kernel_rfl)
   exact G_pick rfl (.tmp 76) (.tmp 81) (.const (.bool false)) rfl f5 (show _ = _ from f10) (hI.u0 hK rfl)
  refine .mf 11 rfl rfl rfl rfl rfl (by kernel_rfl) rfl ?_
  refine .cons (fun V Ld a W hLi hpre hR hI KK hK => ?_) ?_
  ·
   refine G_gw hI hR hpre 12 rfl rfl rfl rfl (by kernel_rfl) ?_
   have o12 := (hR.old 12 (by kernel_rfl)).trans (show _ = Value.int .i64 gi from rfl)
   exact G_move rfl (.tmp 12) rfl o12 (hI.u0 hK rfl)
  refine .cons (fun V Ld a W hLi hpre hR hI KK hK => ?_) ?_
  ·
   refine G_gw hI hR hpre 12 rfl rfl rfl rfl (by kernel_rfl) ?_
   have o15 := (hR.old 15 (by kernel_rfl)).trans (show _ = Value.int .i64 gi from rfl)
   exact G_move rfl (.tmp 15) rfl o15 (hI.u0 hK rfl)
  refine .cons (fun V Ld a W hLi hpre hR hI KK hK => ?_) ?_
  ·
   refine G_gw hI hR hpre 12 rfl rfl rfl rfl (by kernel_rfl) ?_
   have f13 := hI.ef hR hpre 13 rfl rfl rfl (by kernel_rfl)
   have f14 := hI.ef hR hpre 14 rfl rfl rfl (by kernel_rfl)
   exact J_binOp rfl .eql _ (.tmp 84) (.tmp 85) _ rfl (by rw [f13, f14]; go_simp) (hI.u0 hK rfl)
  refine .cons (fun V Ld a W hLi hpre hR hI KK hK => ?_) ?_
  ·
   have f12 := hI.ef hR hpre 12 rfl rfl rfl (by kernel_rfl)
   have f15 := hI.ef hR hpre 15 rfl rfl rfl (by kernel_rfl)
   exact G_pick rfl (.tmp 83) (.tmp 86) (.const (.bool false)) rfl f12 (show _ = _ from f15) (hI.u0 hK rfl)
  refine .mf 16 rfl rfl rfl rfl rfl (by kernel_rfl) rfl ?_
  refine .cons (fun V Ld a W hLi hpre hR hI KK hK => ?_) ?_
  ·
   refine G_gw hI hR hpre 17 rfl rfl rfl rfl (by kernel_rfl) ?_
   have o17 := (hR.old 17 (by kernel_rfl)).trans (show _ = Value.pointer (some ⟨n3, 0, none⟩) from rfl)
   exact J_load rfl _ (.tmp 17) rfl (by rw [o17]; exact ld_desk (C3.out.below hI.st.bl)) (hI.u0 hK rfl)
  refine .cons (fun V Ld a W hLi hpre hR hI KK hK => ?_) ?_
  ·
   refine G_gw hI hR hpre 17 rfl rfl rfl rfl (by kernel_rfl) ?_
   have o20 := (hR.old 20 (by kernel_rfl)).trans (show _ = Value.pointer (some ⟨n4, 0, none⟩) from rfl)
   exact J_load rfl _ (.tmp 20) rfl (by rw [o20]; exact ld_desk (C4.out.below hI.st.bl)) (hI.u0 hK rfl)
  refine .cons (fun V Ld a W hLi hpre hR hI KK hK => ?_) ?_
  ·
   refine G_gw hI hR hpre 17 rfl rfl rfl rfl (by kernel_rfl) ?_
   have o19 := (hR.old 19 (by kernel_rfl)).trans (show _ = Value.int .i64 ae from rfl)
   exact G_move rfl (.tmp 19) rfl o19 (hI.u0 hK rfl)
  refine .cons (fun V Ld a W hLi hpre hR hI KK hK => ?_) ?_
  ·
   refine G_gw hI hR hpre 17 rfl rfl rfl rfl (by kernel_rfl) ?_
   have o22 := (hR.old 22 (by kernel_rfl)).trans (show _ = Value.int .i64 ae from rfl)
   exact G_move rfl (.tmp 22) rfl o22 (hI.u0 hK rfl)
  refine .cons (fun V Ld a W hLi hpre hR hI KK hK => ?_) ?_
  ·
   refine G_gw hI hR hpre 17 rfl rfl rfl rfl (by kernel_rfl) ?_
   have f18 := hI.ef hR hpre 18 rfl rfl rfl (by kernel_rfl)
   have f19 := hI.ef hR hpre 19 rfl rfl rfl (by kernel_rfl)
   have f20 := hI.ef hR hpre 20 rfl rfl rfl (by kernel_rfl)
   have f21 := hI.ef hR hpre 21 rfl rfl rfl (by kernel_rfl)
   refine J_call rfl _ _ _ rfl enter_same (by simp only [List.map_toArray, List.map_cons, List.map_nil, f18, f19, f20, f21]) (lawSame_any _ _ ae _ W (O3.out.below hI.st.bl).read (O4.out.below hI.st.bl).read SA.out) ?_
   rintro e w' ⟨rfl, hb⟩
   exact ⟨_, rfl, hK _ _ (hI.put (R := Bl) hb 22 rfl rfl (hI.st.to hb))⟩
  refine .cons (fun V Ld a W hLi hpre hR hI KK hK => ?_) ?_
  ·
   have f17 := hI.ef hR hpre 17 rfl rfl rfl (by kernel_rfl)
   have f22 := hI.ef hR hpre 22 rfl rfl rfl (by kernel_rfl)
   exact G_pick rfl (.tmp 88) (.tmp 93) (.const (.bool false)) rfl f17 (show _ = _ from f22) (hI.u0 hK rfl)
  refine .mf 23 rfl rfl rfl rfl rfl (by kernel_rfl) rfl ?_
  refine .cons (fun V Ld a W hLi hpre hR hI KK hK => ?_) ?_
  ·
   refine G_gw hI hR hpre 24 rfl rfl rfl rfl (by kernel_rfl) ?_
   have o18 := (hR.old 18 (by kernel_rfl)).trans (show _ = Value.pointer (some ⟨k3, 0, none⟩) from rfl)
   exact J_load rfl _ (.tmp 18) rfl (by rw [o18]; exact ld_case (K3.out.below hI.st.bl)) (hI.u0 hK rfl)
  refine .cons (fun V Ld a W hLi hpre hR hI KK hK => ?_) ?_
  ·
   refine G_gw hI hR hpre 24 rfl rfl rfl rfl (by kernel_rfl) ?_
   have o21 := (hR.old 21 (by kernel_rfl)).trans (show _ = Value.pointer (some ⟨k4, 0, none⟩) from rfl)
   exact J_load rfl _ (.tmp 21) rfl (by rw [o21]; exact ld_case (K4.out.below hI.st.bl)) (hI.u0 hK rfl)
  refine .cons (fun V Ld a W hLi hpre hR hI KK hK => ?_) ?_
  ·
   refine G_gw hI hR hpre 24 rfl rfl rfl rfl (by kernel_rfl) ?_
   have f25 := hI.ef hR hpre 25 rfl rfl rfl (by kernel_rfl)
   have f26 := hI.ef hR hpre 26 rfl rfl rfl (by kernel_rfl)
   exact J_binOp rfl .eql _ (.tmp 96) (.tmp 97) _ rfl (by rw [f25, f26]; exact eq_case _ _ kx W) (hI.u0 hK rfl)
  refine .cons (fun V Ld a W hLi hpre hR hI KK hK => ?_) ?_
  ·
   have f24 := hI.ef hR hpre 24 rfl rfl rfl (by kernel_rfl)
   have f27 := hI.ef hR hpre 27 rfl rfl rfl (by kernel_rfl)
   exact G_pick rfl (.tmp 95) (.tmp 98) (.const (.bool false)) rfl f24 (show _ = _ from f27) (hI.u0 hK rfl)
  refine .mf 28 rfl rfl rfl rfl rfl (by kernel_rfl) rfl ?_
  refine .cons (fun V Ld a W hLi hpre hR hI KK hK => ?_) ?_
  ·
   refine G_gw hI hR hpre 29 rfl rfl rfl rfl (by kernel_rfl) ?_
   have o23 := (hR.old 23 (by kernel_rfl)).trans (show _ = Value.pointer (some ⟨n5, 0, none⟩) from rfl)
   exact J_load rfl _ (.tmp 23) rfl (by rw [o23]; exact ld_desk (C5.out.below hI.st.bl)) (hI.u0 hK rfl)
  refine .cons (fun V Ld a W hLi hpre hR hI KK hK => ?_) ?_
  ·
   refine G_gw hI hR hpre 29 rfl rfl rfl rfl (by kernel_rfl) ?_
   have o25 := (hR.old 25 (by kernel_rfl)).trans (show _ = Value.pointer (some ⟨n6, 0, none⟩) from rfl)
   exact J_load rfl _ (.tmp 25) rfl (by rw [o25]; exact ld_desk (C6.out.below hI.st.bl)) (hI.u0 hK rfl)
  refine .cons (fun V Ld a W hLi hpre hR hI KK hK => ?_) ?_
  ·
   refine G_gw hI hR hpre 29 rfl rfl rfl rfl (by kernel_rfl) ?_
   have o24 := (hR.old 24 (by kernel_rfl)).trans (show _ = Value.int .i64 le from rfl)
   exact G_move rfl (.tmp 24) rfl o24 (hI.u0 hK rfl)
  refine .cons (fun V Ld a W hLi hpre hR hI KK hK => ?_) ?_
  ·
   refine G_gw hI hR hpre 29 rfl rfl rfl rfl (by kernel_rfl) ?_
   have o26 := (hR.old 26 (by kernel_rfl)).trans (show _ = Value.int .i64 le from rfl)
   exact G_move rfl (.tmp 26) rfl o26 (hI.u0 hK rfl)
  refine .cons (fun V Ld a W hLi hpre hR hI KK hK => ?_) ?_
  ·
   refine G_gw hI hR hpre 29 rfl rfl rfl rfl (by kernel_rfl) ?_
   have f30 := hI.ef hR hpre 30 rfl rfl rfl (by kernel_rfl)
   have f31 := hI.ef hR hpre 31 rfl rfl rfl (by kernel_rfl)
   have f32 := hI.ef hR hpre 32 rfl rfl rfl (by kernel_rfl)
   have f33 := hI.ef hR hpre 33 rfl rfl rfl (by kernel_rfl)
   refine J_call rfl _ _ _ rfl enter_same (by simp only [List.map_toArray, List.map_cons, List.map_nil, f30, f31, f32, f33]) (lawSame_any _ _ le _ W (O5.out.below hI.st.bl).read (O6.out.below hI.st.bl).read SL.out) ?_
   rintro e w' ⟨rfl, hb⟩
   exact ⟨_, rfl, hK _ _ (hI.put (R := Bl) hb 34 rfl rfl (hI.st.to hb))⟩
  refine .cons (fun V Ld a W hLi hpre hR hI KK hK => ?_) ?_
  ·
   have f29 := hI.ef hR hpre 29 rfl rfl rfl (by kernel_rfl)
   have f34 := hI.ef hR hpre 34 rfl rfl rfl (by kernel_rfl)
   exact G_pick rfl (.tmp 100) (.tmp 105) (.const (.bool false)) rfl f29 (show _ = _ from f34) (hI.u0 hK rfl)
  refine .mf 35 rfl rfl rfl rfl rfl (by kernel_rfl) rfl ?_
  refine .cons (fun V Ld a W hLi hpre hR hI KK hK => ?_) ?_
  ·
   refine G_gw hI hR hpre 36 rfl rfl rfl rfl (by kernel_rfl) ?_
   have o5 := (hR.old 5 (by kernel_rfl)).trans (show _ = Value.pointer (some ⟨bx, 0, none⟩) from rfl)
   exact J_load rfl _ (.tmp 5) rfl (by rw [o5]; exact ld_desk (C0.out.below hI.st.bl)) (hI.u0 hK rfl)
  refine .cons (fun V Ld a W hLi hpre hR hI KK hK => ?_) ?_
  ·
   refine G_gw hI hR hpre 36 rfl rfl rfl rfl (by kernel_rfl) ?_
   have o4 := (hR.old 4 (by kernel_rfl)).trans (show _ = Value.int .i64 id from rfl)
   exact G_move rfl (.tmp 4) rfl o4 (hI.u0 hK rfl)
  refine .cons (fun V Ld a W hLi hpre hR hI KK hK => ?_) ?_
  ·
   refine G_gw hI hR hpre 36 rfl rfl rfl rfl (by kernel_rfl) ?_
   have f37 := hI.ef hR hpre 37 rfl rfl rfl (by kernel_rfl)
   have f38 := hI.ef hR hpre 38 rfl rfl rfl (by kernel_rfl)
   refine J_call rfl _ _ _ rfl enter_un (by simp only [List.map_toArray, List.map_cons, List.map_nil, f37, f38]) (unseen_any _ id D W (HD0.out.below hI.st.bl) HKL.out) ?_
   rintro e w' ⟨v, rfl, ho, hb⟩
   exact ⟨_, rfl, hK _ _ (hI.put (R := Bl) hb 39 rfl (elsP_of ho) (hI.st.to hb))⟩
  refine .cons (fun V Ld a W hLi hpre hR hI KK hK => ?_) ?_
  ·
   refine G_gw hI hR hpre 36 rfl rfl rfl rfl (by kernel_rfl) ?_
   have o5 := (hR.old 5 (by kernel_rfl)).trans (show _ = Value.pointer (some ⟨bx, 0, none⟩) from rfl)
   exact J_load rfl _ (.tmp 5) rfl (by rw [o5]; exact ld_desk (C0.out.below hI.st.bl)) (hI.u0 hK rfl)
  refine .cons (fun V Ld a W hLi hpre hR hI KK hK => ?_) ?_
  ·
   refine G_gw hI hR hpre 36 rfl rfl rfl rfl (by kernel_rfl) ?_
   have o4 := (hR.old 4 (by kernel_rfl)).trans (show _ = Value.int .i64 id from rfl)
   exact G_move rfl (.tmp 4) rfl o4 (hI.u0 hK rfl)
  refine .cons (fun V Ld a W hLi hpre hR hI KK hK => ?_) ?_
  ·
   refine G_gw hI hR hpre 36 rfl rfl rfl rfl (by kernel_rfl) ?_
   have f40 := hI.ef hR hpre 40 rfl rfl rfl (by kernel_rfl)
   have f41 := hI.ef hR hpre 41 rfl rfl rfl (by kernel_rfl)
   refine J_call rfl _ _ _ rfl enter_runs (by simp only [List.map_toArray, List.map_cons, List.map_nil, f40, f41]) (refUnseen_any _ id D W (HD0.out.below hI.st.bl) HKL.out) ?_
   rintro e w' ⟨v, rfl, ho, hb⟩
   exact ⟨_, rfl, hK _ _ (hI.put (R := Bl) hb 42 rfl (elsP_of ho) (hI.st.to hb))⟩
  refine .cons (fun V Ld a W hLi hpre hR hI KK hK => ?_) ?_
  ·
   refine G_gw hI hR hpre 36 rfl rfl rfl rfl (by kernel_rfl) ?_
   have p39 := pm hpre 39 (by kernel_rfl)
   obtain ⟨A39, c39, e39, h39⟩ := hI.val 39 _ rfl p39
   have f39 := (hR.ev 39 rfl rfl p39).trans e39
   have p42 := pm hpre 42 (by kernel_rfl)
   obtain ⟨A42, c42, e42, h42⟩ := hI.val 42 _ rfl p42
   have f42 := (hR.ev 42 rfl rfl p42).trans e42
   refine J_call rfl _ _ _ rfl enter_sc (by simp only [List.map_toArray, List.map_cons, List.map_nil, f39, f42]) (sameCases_any A39 A42 (unseenL D.ks id) c39 c42 W h39 h42 HUL.out) ?_
   rintro e w' ⟨rfl, hb⟩
   exact ⟨_, rfl, hK _ _ (hI.put (R := Bl) hb 43 rfl rfl (hI.st.to hb))⟩
  refine .cons (fun V Ld a W hLi hpre hR hI KK hK => ?_) ?_
  ·
   have f36 := hI.ef hR hpre 36 rfl rfl rfl (by kernel_rfl)
   have f43 := hI.ef hR hpre 43 rfl rfl rfl (by kernel_rfl)
   exact G_pick rfl (.tmp 107) (.tmp 114) (.const (.bool false)) rfl f36 (show _ = _ from f43) (hI.u0 hK rfl)
  refine .cons (fun V Ld a W hLi hpre hR hI KK hK => ?_) trivial
  ·
   have f44 := hI.ef hR hpre 44 rfl rfl rfl (by kernel_rfl)
   exact G_assign rfl (.tmp 115) rfl f44 (hI.u0 hK rfl)
 case refine_3 =>
  intro V Ld w9 hLd hI
  have e45 : V 45 = _ := hI.val 45 _ rfl (hLd 45 (by decide))
  have hb9 := below_trans HB.out hI.st.bl
  clear hI hLd
  simp only [finL, putL, Act.put, Nat.reduceAdd]
  rw [e45]
  clear e45
  generalize V 0 = z0, V 1 = z1
  generalize V 2 = z2, V 3 = z3
  generalize V 4 = z4, V 5 = z5
  generalize V 6 = z6, V 7 = z7
  generalize V 8 = z8, V 9 = z9
  generalize V 10 = z10, V 11 = z11
  generalize V 12 = z12, V 13 = z13
  generalize V 14 = z14, V 15 = z15
  generalize V 16 = z16, V 17 = z17
  generalize V 18 = z18, V 19 = z19
  generalize V 20 = z20, V 21 = z21
  generalize V 22 = z22, V 23 = z23
  generalize V 24 = z24, V 25 = z25
  generalize V 26 = z26, V 27 = z27
  generalize V 28 = z28, V 29 = z29
  generalize V 30 = z30, V 31 = z31
  generalize V 32 = z32, V 33 = z33
  generalize V 34 = z34, V 35 = z35
  generalize V 36 = z36, V 37 = z37
  generalize V 38 = z38, V 39 = z39
  generalize V 40 = z40, V 41 = z41
  generalize V 42 = z42, V 43 = z43, V 44 = z44
  clear V
  simp only [List.setIfInBounds_toArray, List.set_cons_succ, List.set_cons_zero]
  go_wp2_with fail
  go_ret
  exact RetB.bool rfl hb9
end Go.Proofs.Ytjckpammcgeloaa
namespace Go.Proofs.Ytjckpammcgeloaa
open Go.RowKit

def bAnn : ByteArray := ⟨#[97, 110, 110]⟩
def bBob : ByteArray := ⟨#[98, 111, 98]⟩
def bCid : ByteArray := ⟨#[99, 105, 100]⟩
def bHr : ByteArray := ⟨#[104, 114]⟩
def D0 : DeskD := ⟨[⟨1, bHr, []⟩, ⟨4, bHr, [bBob]⟩], []⟩
theorem two_any (w : World) : Calls Try.prog 23 #[] w (CopD D0 w) := by
  have h : ∀ wf, wf = (((w.alloc (.cells #[.slice (some ⟨w.heap.size + 1 + 1, 0, none⟩) 2 2, .slice none 0 0] 30)).alloc (.cells #[.string ⟨#[98, 111, 98]⟩] 9)).alloc (.cells #[.int .i64 1, .string ⟨#[104, 114]⟩, .slice none 0 0, .int .i64 4, .string ⟨#[104, 114]⟩, .slice (some ⟨w.heap.size + 1, 0, none⟩) 1 1] 45)) → DeskCell wf w.heap.size (.slice (some ⟨w.heap.size + 1 + 1, 0, none⟩) 2 2) (.slice none 0 0) ∧ CopD D0 w (.returned (.agg #[.slice (some ⟨w.heap.size + 1 + 1, 0, none⟩) 2 2, .slice none 0 0])) wf := by
    intro wf hwf
    have b1 := below_alloc w (.cells #[.slice (some ⟨w.heap.size + 1 + 1, 0, none⟩) 2 2, .slice none 0 0] 30)
    have b2 := below_alloc (w.alloc (.cells #[.slice (some ⟨w.heap.size + 1 + 1, 0, none⟩) 2 2, .slice none 0 0] 30)) (.cells #[.string ⟨#[98, 111, 98]⟩] 9)
    have b3 := below_alloc ((w.alloc (.cells #[.slice (some ⟨w.heap.size + 1 + 1, 0, none⟩) 2 2, .slice none 0 0] 30)).alloc (.cells #[.string ⟨#[98, 111, 98]⟩] 9)) (.cells #[.int .i64 1, .string ⟨#[104, 114]⟩, .slice none 0 0, .int .i64 4, .string ⟨#[104, 114]⟩, .slice (some ⟨w.heap.size + 1, 0, none⟩) 1 1] 45)
    rw [← hwf] at b3
    have e2 : wf.heap[w.heap.size + 1]? = some (.cells #[.string ⟨#[98, 111, 98]⟩] 9 (0, 0)) := by
      rw [b3.block _ (by simp)]
      have := heap_alloc_new (w.alloc (.cells #[.slice (some ⟨w.heap.size + 1 + 1, 0, none⟩) 2 2, .slice none 0 0] 30)) (.cells #[.string ⟨#[98, 111, 98]⟩] 9)
      simpa using this
    have e3 : wf.heap[w.heap.size + 1 + 1]? = some (.cells #[.int .i64 1, .string ⟨#[104, 114]⟩, .slice none 0 0, .int .i64 4, .string ⟨#[104, 114]⟩, .slice (some ⟨w.heap.size + 1, 0, none⟩) 1 1] 45 (0, 0)) := by
      have := heap_alloc_new ((w.alloc (.cells #[.slice (some ⟨w.heap.size + 1 + 1, 0, none⟩) 2 2, .slice none 0 0] 30)).alloc (.cells #[.string ⟨#[98, 111, 98]⟩] 9)) (.cells #[.int .i64 1, .string ⟨#[104, 114]⟩, .slice none 0 0, .int .i64 4, .string ⟨#[104, 114]⟩, .slice (some ⟨w.heap.size + 1, 0, none⟩) 1 1] 45)
      rw [← hwf] at this
      simpa using this
    have l2 := blk_ltE e2
    refine ⟨((DeskCell.new _ _ rfl).below b2).below b3, _, _, rfl, ⟨⟨[⟨1, bHr, none, 0, 0⟩, ⟨4, bHr, some ⟨w.heap.size + 1, 0, none⟩, 1, 1⟩], ?_, rfl, fun k hk => ?_⟩, ElOwn.nil _ _ _ _, fun b _ e => by cases e⟩, below_trans (below_trans b1 b2) b3⟩
    · exact ⟨rfl, .inr ⟨w.heap.size + 1 + 1, 2, _, rfl, by omega, e3, Nat.le_refl _, by unfold maxLen; omega, rfl, rfl⟩⟩
    · rcases k with _ | _ | k
      · exact ⟨rfl, rfl, rfl, ElP.nil _ _ _⟩
      · refine ⟨rfl, rfl, rfl, ⟨fun j x hj => ?_, ⟨show 1 ≤ 1 by omega, show 1 ≤ maxLen by unfold maxLen; omega, fun e => (by cases e), .inr (fun a e => (by injection e with e; rw [← e]))⟩, fun b off e => ?_⟩⟩
        · rcases j with _ | j
          · have hj : some bBob = some x := hj
            injection hj with hj
            subst hj
            refine ⟨w.heap.size + 1, 0, rfl, l2, fun i hi => ?_⟩
            have hi : i < 1 := hi
            obtain rfl : i = 0 := by omega
            exact cell_of_row _ _ 0 _ _ (0, 0) e2
          · have hj : ([] : List ByteArray)[j]? = some x := hj
            simp at hj
        · right
          injection e with e
          injection e with e1 e2
          subst e1
          exact ⟨by omega, fun e => (by have e : some (w.heap.size + 1 + 1) = some (w.heap.size + 1) := e; injection e with e; omega), fun e => (by cases e)⟩
      · exact absurd hk (by show ¬ k + 2 < 2; omega)
  have HF := Lib.hid h
  clear h
  go_enter Try.func23, Try.ntmps23
  go_wp2_with fail
  exact bodyPost_ret (results_desk rfl _ _ w.heap.size rfl (HF.out _ rfl).1) rfl (HF.out _ rfl).2

def D1 : DeskD := giveD D0 bAnn bHr 3
def D2 : DeskD := giveD D1 bCid bHr 3
def D3 : DeskD := ackD D2 4
theorem aw_e1 : giveE D0 bAnn bHr 3 = 0 := by decide +kernel
theorem aw_i1 : giveI D0 bAnn bHr 3 = 1 := by decide +kernel
theorem aw_e2 : giveE D1 bCid bHr 3 = 0 := by decide +kernel
theorem aw_i2 : giveI D1 bCid bHr 3 = 4 := by decide +kernel
theorem aw_e3 : ackE D2 4 = 0 := by decide +kernel
theorem aw_r3 : (eqS (ackK D2 4).r bCid && (ackK D2 4).s) = true := by decide +kernel
theorem aw_e4 : leaveE D2 1 = 0 := by decide +kernel
theorem aw_u1 : (unseenL D2.ks 1).length = 1 := by decide +kernel
theorem aw_u2 : (unseenL D3.ks 4).length = 0 := by decide +kernel
theorem aw_c : chkE D3 = 0 := by decide +kernel
theorem cid_list : bCid.toList = [99, 105, 100] := by decide +kernel
theorem eqS_toList {s t : ByteArray} (h : eqS s t = true) : s.toList = t.toList := eq_of_beq h
theorem s0 : DeskS D0 := by
  refine ⟨by decide, by decide, fun k hk => ?_, fun k hk => absurd hk (by show ¬ k < 0; omega)⟩
  rcases k with _ | _ | k
  · exact ⟨by unfold maxLen; decide, by decide, fun j hj => absurd hj (by show ¬ j < 0; omega)⟩
  · refine ⟨by unfold maxLen; decide, by decide, fun j hj => ?_⟩
    obtain rfl : j = 0 := by have hj : j < 1 := hj; omega
    unfold maxLen; decide
  · exact absurd hk (by show ¬ k + 2 < 2; omega)
theorem s1 : DeskS D1 := giveD_small s0 (by decide) _ _ _ (by unfold maxLen; decide) (by unfold maxLen; decide)
theorem k1 : D1.ks.length = 1 := by decide +kernel
theorem k2 : D2.ks.length = 2 := by decide +kernel
theorem s2 : DeskS D2 := giveD_small s1 (by rw [k1]; decide) _ _ _ (by unfold maxLen; decide) (by unfold maxLen; decide)
theorem s3 : DeskS D3 := ackD_small s2 _
set_option maxRecDepth 100000 in
set_option maxHeartbeats 4000000 in
theorem awake32_any (w : World) : Calls Try.prog 9 #[] w (RetB (.bool true) w) := by
  have S0 := Lib.hid s0
  have S1 := Lib.hid s1
  have S2 := Lib.hid s2
  have S3 := Lib.hid s3
  have E1 := Lib.hid aw_e1
  have I1 := Lib.hid aw_i1
  have E2 := Lib.hid aw_e2
  have I2 := Lib.hid aw_i2
  have E3 := Lib.hid aw_e3
  have E4 := Lib.hid aw_e4
  have R3 := Lib.hid aw_r3
  have U1 := Lib.hid aw_u1
  have U2 := Lib.hid aw_u2
  have CC := Lib.hid aw_c
  have KL1 := Lib.hid k1
  have KL2 := Lib.hid k2
  have FA := Lib.hid (show giveD D0 bAnn bHr 3 = D1 from rfl)
  have FB := Lib.hid (show giveD D1 bCid bHr 3 = D2 from rfl)
  have FC := Lib.hid (show ackD D2 4 = D3 from rfl)
  generalize hd0 : D0 = d0 at *
  generalize hd1 : D1 = d1 at *
  generalize hd2 : D2 = d2 at *
  generalize hd3 : D3 = d3 at *
  have ED0 := Lib.hid hd0
  clear hd0 hd1 hd2 hd3
  go_enter Try.func9, Try.ntmps9
  go_wp2_with fail
  refine (two_any w).mono ?_
  rintro e v0 ⟨u0, x0, rfl, ho, hb⟩
  rw [ED0.out] at ho
  have HB := Lib.hid hb
  have O0 := Lib.hid ho
  clear ho hb
  go_wp2_with fail
  refine (give_any _ bAnn bHr 3 d0 v0 O0.out.read S0.out (by unfold maxLen; decide)).mono ?_
  rintro e v1 ⟨u1, x1, rfl, ho, hb⟩
  rw [I1.out, E1.out]
  rw [FA.out] at ho
  obtain ⟨A1, ca1, B1, cb1, eu, ex⟩ := ho.forms
  have O1 := Lib.hid ho
  replace HB := Lib.hid (below_trans HB.out hb)
  have NN := Lib.hid (show w.heap.size ≤ v1.heap.size from HB.out.size)
  subst eu ex
  clear ho hb
  go_wp2_with fail
  refine gen_calls fun w2 hw => ?_
  have hb : Below v1.heap.size v1 w2 := by rw [hw]; exact below_alloc _ _
  have C1 := Lib.hid (show DeskCell w2 v1.heap.size (.slice A1 d1.cs.length ca1) (.slice B1 d1.ks.length cb1) from by rw [hw]; exact DeskCell.new _ _ rfl)
  replace O1 := Lib.hid (O1.out.below hb)
  replace HB := Lib.hid (below_trans HB.out hb)
  clear hw hb O0
  generalize v1.heap.size = n1 at *
  refine (give_any _ bCid bHr 3 d1 w2 O1.out.read S1.out (by unfold maxLen; decide)).mono ?_
  rintro e v2 ⟨u2, x2, rfl, ho, hb⟩
  rw [I2.out, E2.out]
  rw [FB.out] at ho
  obtain ⟨A2, ca2, B2, cb2, eu, ex⟩ := ho.forms
  have hn1 := C1.out.lt
  have O2 := Lib.hid ho
  have HL1 := Lib.hid hn1
  replace HB := Lib.hid (below_trans HB.out hb)
  replace C1 := Lib.hid (C1.out.below hb)
  subst eu ex
  clear ho hb hn1
  have c0 := C1.out.c0
  have c1 := C1.out.c1
  have f0 := C1.out.fz 0
  have f1 := C1.out.fz 1
  have l0 := C1.out.lt
  go_wp2_with fail
  refine gen_calls fun w3 hw => ?_
  have HW := Lib.hid hw
  have HN1 := Lib.hid (show w.heap.size ≤ n1 from NN.out)
  replace HB := Lib.hid (show Below w.heap.size w w3 from by rw [HW.out]; exact below_set (below_set HB.out ⟨n1, 0, none⟩ _ HN1.out) ⟨n1, 1, none⟩ _ HN1.out)
  have D2C := Lib.hid (show DeskCell w3 n1 (.slice A2 d2.cs.length ca2) (.slice B2 d2.ks.length cb2) from by rw [HW.out]; exact (C1.out.set0 _).set1 _)
  replace O2 := Lib.hid (show DeskO w3 w2.heap.size (.slice A2 d2.cs.length ca2) (.slice B2 d2.ks.length cb2) d2 from by rw [HW.out]; exact (O2.out.set ⟨n1, 0, none⟩ _ HL1.out).set ⟨n1, 1, none⟩ _ HL1.out)
  clear hw HW C1 c0 c1 f0 f1 l0 O1
  refine (ack_any _ 4 d2 w3 O2.out.read S2.out).mono ?_
  rintro e v3 ⟨u3, x3, rfl, ho, hb⟩
  rw [E3.out]
  rw [FC.out] at ho
  generalize ackK d2 4 = kx at *
  obtain ⟨A3, ca3, B3, cb3, eu, ex⟩ := ho.forms
  have O3 := Lib.hid ho
  replace HB := Lib.hid (below_trans HB.out hb)
  replace D2C := Lib.hid (D2C.out.below hb)
  replace O2 := Lib.hid (O2.out.below hb)
  subst eu ex
  clear ho hb
  have c0 := D2C.out.c0
  have c1 := D2C.out.c1
  have l0 := D2C.out.lt
  go_wp2_with fail
  refine gen_calls fun w4 hw => ?_
  have hb : Below v3.heap.size v3 w4 := by rw [hw]; exact bl_alloc _ (below_alloc _ _)
  have C3 := Lib.hid (show DeskCell w4 v3.heap.size (.slice A3 d3.cs.length ca3) (.slice B3 d3.ks.length cb3) from by rw [hw]; exact (DeskCell.new _ _ rfl).below (below_alloc _ _))
  have K3 := Lib.hid (show CaseC w4 (v3.heap.size + 1) kx from by rw [hw]; exact CaseC.new kx (by simp))
  replace HB := Lib.hid (below_trans HB.out hb)
  replace D2C := Lib.hid (D2C.out.below hb)
  replace O2 := Lib.hid (O2.out.below hb)
  replace O3 := Lib.hid (O3.out.below hb)
  clear hw hb c0 c1 l0
  generalize v3.heap.size = n3 at *
  refine (leave_any _ 1 d2 w4 O2.out.read S2.out).mono ?_
  rintro e v4 ⟨u4, x4, rfl, ho, hb⟩
  rw [E4.out]
  obtain ⟨A4, ca4, B4, cb4, eu, ex⟩ := ho.forms
  replace HB := Lib.hid (below_trans HB.out hb)
  replace D2C := Lib.hid (D2C.out.below hb)
  replace O2 := Lib.hid (O2.out.below hb)
  replace O3 := Lib.hid (O3.out.below hb)
  replace C3 := Lib.hid (C3.out.below hb)
  replace K3 := Lib.hid (K3.out.below hb)
  subst eu ex
  clear ho hb
  have r3 := R3.out
  rw [Bool.and_eq_true] at r3
  have q1 : kx.r.toList = [99, 105, 100] := (eqS_toList r3.1).trans cid_list
  have k1 := K3.out.c1
  have k4 : v4.cell? ⟨n3 + 1, 4, none⟩ = some (.bool true) := by have := K3.out.c4; rw [r3.2] at this; exact this
  have c0 := D2C.out.c0
  have c1 := D2C.out.c1
  have e0 := C3.out.c0
  have e1 := C3.out.c1
  have l0 := D2C.out.lt
  have l1 := C3.out.lt
  have l2 := K3.out.lt
  clear r3
  go_wp2_with fail
  refine gen_calls fun w5 hw => ?_
  have hb : Below v4.heap.size v4 w5 := by rw [hw]; exact below_alloc _ _
  replace HB := Lib.hid (below_trans HB.out hb)
  replace O2 := Lib.hid (O2.out.below hb)
  replace O3 := Lib.hid (O3.out.below hb)
  replace C3 := Lib.hid (C3.out.below hb)
  clear hw hb k1 k4 c0 c1 e0 e1 l0 l1 l2
  refine (unseen_any _ 1 d2 w5 O2.out.read (by rw [KL2.out]; decide)).mono ?_
  rintro e v5 ⟨vv, rfl, ho, hb⟩
  obtain ⟨A5, c5, e5, -⟩ := ho.toP
  rw [U1.out] at e5
  subst e5
  replace HB := Lib.hid (below_trans HB.out hb)
  replace O3 := Lib.hid (O3.out.below hb)
  replace C3 := Lib.hid (C3.out.below hb)
  clear ho hb
  have e0 := C3.out.c0
  have e1 := C3.out.c1
  have l1 := C3.out.lt
  go_wp2_with fail
  refine (unseen_any _ 4 d3 v5 O3.out.read (by have := S3.out.lk; omega)).mono ?_
  rintro e v6 ⟨vv, rfl, ho, hb⟩
  obtain ⟨A6, c6, e6, -⟩ := ho.toP
  rw [U2.out] at e6
  subst e6
  replace HB := Lib.hid (below_trans HB.out hb)
  replace O3 := Lib.hid (O3.out.below hb)
  replace C3 := Lib.hid (C3.out.below hb)
  clear ho hb e0 e1 l1
  have e0 := C3.out.c0
  have e1 := C3.out.c1
  have l1 := C3.out.lt
  go_wp2_with fail
  refine ret_below (check_any _ d3 v6 O3.out.read S3.out) fun v7 hb => ?_
  rw [CC.out]
  replace HB := Lib.hid (below_trans HB.out hb)
  clear hb e0 e1 l1
  go_wp2_with fail
  go_ret
  exact RetB.bool rfl HB.out
end Go.Proofs.Ytjckpammcgeloaa
namespace Go.Proofs.Ytjckpammcgeloaa
open Go.RowKit

def wordV (L : List ByteArray) (R : List Int) : ByteArray := sAt L (nextV R L.length).toNat
def WordP (D : Nat) (L : List ByteArray) (R : List Int) (w : World) (e : Ending) (w' : World) : Prop := e = .returned (.string (wordV L R)) ∧ DiceAt w' D R.tail ∧ w.grownBy w' (some D)
theorem wordV_in {L : List ByteArray} {R : List Int} (h : 0 < L.length) : wordV L R ∈ L := by
  obtain ⟨m1, m2⟩ := nextV_range R L.length (by omega)
  unfold wordV
  exact List.mem_of_getElem? (sAt_get (by omega))
set_option maxHeartbeats 1000000 in
theorem word_any (D : Nat) (R : List Int) (A : Option Addr) (L : List ByteArray) (c : Nat) (w : World) (h : DiceAt w D R) (hS : ElP ES (fun b => b ≠ D) w A c L) (h0 : 0 < L.length) (hl : L.length ≤ 1000) :
    Calls Try.prog 15 #[.pointer (some ⟨D, 0, none⟩), .slice A L.length c] w (WordP D L R w) := by
  have HS := Lib.hid hS
  have HD := Lib.hid h
  have HV := Lib.hid (show wordV L R = sAt L (nextV R L.length).toNat from rfl)
  clear hS h
  go_enter Try.func15, Try.ntmps15
  go_wp2_with fail
  refine (next_any D R L.length _ HD.out (by omega)).mono ?_
  rintro e w1 ⟨rfl, hD1, hg⟩
  obtain ⟨m1, m2⟩ := nextV_range R L.length (by omega)
  generalize nextV R L.length = q at *
  obtain ⟨k, rfl⟩ := Int.eq_ofNat_of_zero_le m1
  have hk : k < L.length := by omega
  obtain ⟨b, off, rfl, hb, -, hc⟩ := (HS.out.keep (Kpt.grown hg (fun b hb e => hb (by injection e with e; exact e.symm)))).str hk
  have HR := Lib.hid (show WordP D L R w (.returned (.string (sAt L k))) w1 from ⟨by rw [HV.out, Int.toNat_natCast], hD1, hg⟩)
  clear hD1 hg m1
  go_wp2_with fail
  go_ret
  exact HR.out
def PickV (L R : List Int) : Int := nth L (nextV R L.length).toNat
def PickQ (D : Nat) (L R : List Int) (w : World) (e : Ending) (w' : World) : Prop := e = .returned (.int .i64 (PickV L R)) ∧ DiceAt w' D R.tail ∧ w.grownBy w' (some D)
set_option maxHeartbeats 1000000 in
theorem pickQ_any (D : Nat) (R : List Int) (A : Option Addr) (L : List Int) (c : Nat) (w : World) (h : DiceAt w D R) (hI : IntsAt w A L) (hA : ∀ b off, A = some ⟨b, off, none⟩ → b ≠ D) (h0 : 0 < L.length) (hl : L.length ≤ 1000) :
    Calls Try.prog 22 #[.pointer (some ⟨D, 0, none⟩), .slice A L.length c] w (PickQ D L R w) := by
  have HI := Lib.hid hI
  have HA := Lib.hid hA
  have HD := Lib.hid h
  have HV := Lib.hid (show PickV L R = nth L (nextV R L.length).toNat from rfl)
  clear hI hA h
  go_enter Try.func22, Try.ntmps22
  go_wp2_with fail
  refine (next_any D R L.length _ HD.out (by omega)).mono ?_
  rintro e w1 ⟨rfl, hD1, hg⟩
  obtain ⟨m1, m2⟩ := nextV_range R L.length (by omega)
  generalize nextV R L.length = q at *
  obtain ⟨k, rfl⟩ := Int.eq_ofNat_of_zero_le m1
  have hk : k < L.length := by omega
  obtain ⟨b, off, rfl, hb, hc⟩ := (HI.out.grown hg HA.out) k hk
  have HR := Lib.hid (show PickQ D L R w (.returned (.int .i64 (nth L k))) w1 from ⟨by rw [HV.out, Int.toNat_natCast], hD1, hg⟩)
  clear hD1 hg m1
  go_wp2_with fail
  go_ret
  exact HR.out
def oneV (n : Int) (R : List Int) : Bool := nextV R n == n - 1
def OneP (D : Nat) (n : Int) (R : List Int) (w : World) (e : Ending) (w' : World) : Prop := e = .returned (.bool (oneV n R)) ∧ DiceAt w' D R.tail ∧ w.grownBy w' (some D)
set_option maxHeartbeats 1000000 in
theorem one_any (D : Nat) (R : List Int) (n : Int) (w : World) (h : DiceAt w D R) (h1 : 1 ≤ n) (h2 : n ≤ 1000) :
    Calls Try.prog 24 #[.pointer (some ⟨D, 0, none⟩), .int .i64 n] w (OneP D n R w) := by
  have HD := Lib.hid h
  have HV := Lib.hid (show oneV n R = (nextV R n == n - 1) from rfl)
  clear h
  go_enter Try.func24, Try.ntmps24
  go_wp2_with fail
  refine (next_any D R n _ HD.out (by omega)).mono ?_
  rintro e w1 ⟨rfl, hD1, hg⟩
  have HR := Lib.hid (show OneP D n R w (.returned (.bool (nextV R n == n - 1))) w1 from ⟨by rw [HV.out], hD1, hg⟩)
  generalize nextV R n = q at *
  clear hD1 hg
  go_wp2_with fail
  go_ret
  exact HR.out
/-- A literal of texts. -/
theorem lit_strs (w : World) (L : List ByteArray) (n : Nat) (hn : n = L.length) (hl : L.length ≤ 1000) : ElP ES (fun b => b = w.heap.size) (w.alloc (.cells (L.map Value.string).toArray 9)) (some ⟨w.heap.size, 0, none⟩) n L := by
  subst hn
  refine ⟨fun k x hk => ?_, ⟨Nat.le_refl _, by unfold maxLen; omega, fun e => (by cases e), .inr (fun a e => (by injection e with e; rw [← e]))⟩, fun b off e => (by right; injection e with e; injection e with e1 e2; exact e1.symm)⟩
  refine ⟨_, _, rfl, by simp, fun j hj => ?_⟩
  have hj : j < 1 := hj
  obtain rfl : j = 0 := by omega
  have h := heap_alloc_new w (.cells (L.map Value.string).toArray 9)
  show (w.alloc _).cell? ⟨_, 0 + k * 1 + 0, none⟩ = some (.string x)
  rw [show 0 + k * 1 + 0 = k by omega, cell_of_row _ _ k _ _ (0, 0) h]
  simp [hk]
/-! ### The desk under way -/
def bLegal : ByteArray := ⟨#[108, 101, 103, 97, 108]⟩
structure CouPl (d : CouD) (j : Nat) : Prop where
  id : d.id = ((2 * (j + 1) : Nat) : Int)
  o : d.o = bHr ∨ d.o = bLegal
  away : d.away = [] ∨ d.away = [bAnn] ∨ d.away = [bBob]
def PlC (C : List CouD) : Prop := ∀ j, j < C.length → CouPl (cAt C j) j
def PlK (K : List CaseD) : Prop := ∀ x ∈ K, x.r.size ≤ 1000 ∧ x.o.size ≤ 1000
theorem PlC.snoc {C : List CouD} {d : CouD} (h : PlC C) (hd : CouPl d C.length) : PlC (C ++ [d]) := fun j hj => by
  rw [cAt_app]
  split
  · rename_i q; exact h j q
  · rename_i q
    have : j = C.length := by simp at hj; omega
    subst this
    rw [Nat.sub_self]; exact hd
theorem hr_size : bHr.size = 2 := rfl
theorem legal_size : bLegal.size = 5 := rfl
theorem PlC.small {C : List CouD} (h : PlC C) {K : List CaseD} (hk : PlK K) (hl : C.length ≤ 1000) (hkl : K.length ≤ 1000) : DeskS ⟨C, K⟩ := by
  refine ⟨hl, hkl, fun k hk => ?_, fun k hk2 => ?_⟩
  · have q := h k hk
    refine ⟨?_, ?_, ?_⟩
    · unfold maxLen; rcases q.o with e | e <;> (show (cAt C k).o.size ≤ _; rw [e]) <;> decide
    · show (cAt C k).away.length ≤ 1000
      rcases q.away with e | e | e <;> rw [e] <;> simp
    · intro j hj
      have hm : sAt (cAt C k).away j ∈ (cAt C k).away := List.mem_of_getElem? (sAt_get hj)
      show (sAt (cAt C k).away j).size ≤ _
      unfold maxLen
      rcases q.away with e | e | e
      · rw [e] at hm; cases hm
      · rw [e] at hm; rw [List.mem_singleton] at hm; rw [e, hm]; decide
      · rw [e] at hm; rw [List.mem_singleton] at hm; rw [e, hm]; decide
  · have := hk _ (kAt_in hk2)
    unfold maxLen
    exact ⟨by show (kAt K k).r.size ≤ _; omega, by show (kAt K k).o.size ≤ _; omega⟩
theorem PlC.val {C : List CouD} (h : PlC C) (hl : C.length ≤ 32) : Val ⟨C, []⟩ := by
  refine ⟨hl, by show 0 ≤ 256; omega, fun d hd => ?_, ?_, fun x hx => (by cases hx), List.Pairwise.nil⟩
  · obtain ⟨k, hk, rfl⟩ := cAt_of hd
    have q := h k hk
    refine ⟨by have := q.id; have hk : k < C.length := hk; show 1 ≤ (cAt C k).id ∧ (cAt C k).id ≤ 1048576; omega, ?_, ?_, ?_⟩
    · rcases q.o with e | e <;> rw [e] <;> decide
    · rcases q.away with e | e | e <;> rw [e] <;> simp
    · rcases q.away with e | e | e <;> rw [e]
      · rfl
      · decide
      · decide
  · rw [List.pairwise_iff_getElem]
    intro i j hi hj hij
    have e1 := (h i hi).id
    have e2 := (h j hj).id
    rw [cAt_getElem hi, cAt_getElem hj, e1, e2]
    omega
theorem DeskO.grown {w w' : World} {base d : Nat} {u v : Value} {D : DeskD} (h : DeskO w base u v D) (hg : w.grownBy w' (some d)) (hd : d < base) : DeskO w' base u v D := by
  obtain ⟨X, h1, h2⟩ := h.cs
  exact ⟨⟨X, h1.grown hg hd, h2.keep (Kpt.grown hg (fun b hb e => by injection e with e; have := hb.1; omega))⟩, h.ks.grown hg hd, h.ne⟩
theorem DeskO.pushC {w w' : World} {base : Nat} {u v : Value} {D : DeskD} {X : List CouV} {x : CouV} {d : CouD} {g n cap : Nat} (h : DeskO w base u v D) (hX : ElOwn EC 45 w base u X) (hC : CousV (fun b => base ≤ b ∧ u.ownBlock ≠ some b ∧ v.ownBlock ≠ some b) w X D.cs)
    (hx : CouR (fun b => base ≤ b ∧ u.ownBlock ≠ some b ∧ v.ownBlock ≠ some b) w x d) (ho : ElOwn EC 45 w' base (.slice (some ⟨g, 0, none⟩) n cap) (X ++ [x])) (hg : w.grownBy w' u.ownBlock) (hor : u.ownBlock = some g ∨ w.heap.size ≤ g) :
    DeskO w' base (.slice (some ⟨g, 0, none⟩) n cap) v ⟨D.cs ++ [d], D.ks⟩ := by
  have hv : ∀ b, v.ownBlock = some b → b < w.heap.size ∧ u.ownBlock ≠ some b := fun b hb => ⟨(World.ownsRow.lt h.ks b hb).2, fun e => h.ne b e hb⟩
  refine ⟨⟨X ++ [x], ho, ?_⟩, h.ks.kept (fun k hk => hg.block k (hv k hk).1 (fun e => (hv k hk).2 e.symm)), fun b hb e => ?_⟩
  · have q := ((hC.app (CousV.one hx)).mono (Q := fun b => base ≤ b ∧ u.ownBlock ≠ some b ∧ v.ownBlock ≠ some b ∧ g ≠ b) (fun b hl hb => ⟨hb.1, hb.2.1, hb.2.2, fun e => by
      rcases hor with h0 | h0
      · exact hb.2.1 (by rw [h0, e])
      · omega⟩)).keep (w' := w') (Kpt.grown hg (fun b hb => hb.2.1))
    exact q.mono (fun b _ hb => ⟨hb.1, fun e => hb.2.2.2 (by injection e), hb.2.2.1⟩)
  · have hb : some g = some b := hb
    injection hb with hb
    subst hb
    rcases hor with h0 | h0
    · exact (hv g e).2 h0
    · have := (hv g e).1; omega
/-- play.Desk under way: the result's variable B, the desk's variable B + 1. -/
structure PlS (w wr : World) (Dd B : Nat) (R : List Int) (u v : Value) (D : DeskD) : Prop where
  d : DiceAt wr Dd R
  g : w.grownBy wr (some Dd)
  lo : Dd < B
  n : w.heap.size = B
  r : DeskCell wr B (.slice none 0 0) (.slice none 0 0)
  x : DeskCell wr (B + 1) u v
  o : DeskO wr (B + 1 + 1) u v D
section
variable {w wr w' : World} {Dd B : Nat} {R R' : List Int} {u v : Value} {D : DeskD}
theorem PlS.dice (h : PlS w wr Dd B R u v D) (hd : DiceAt w' Dd R') (hg : wr.grownBy w' (some Dd)) : PlS w w' Dd B R' u v D := by
  have hl := h.lo
  have hx := h.x.lt
  exact ⟨hd, grown_trans h.g hg, hl, h.n, h.r.keep (hg.block _ h.r.lt (fun e => by injection e with e; omega)), h.x.keep (hg.block _ h.x.lt (fun e => by injection e with e; omega)), h.o.grown hg (by omega)⟩
theorem PlS.below (h : PlS w wr Dd B R u v D) (hb : Below wr.heap.size wr w') : PlS w w' Dd B R u v D :=
  ⟨h.d.below hb, grown_trans h.g (grown_of_below hb), h.lo, h.n, h.r.below hb, h.x.below hb, h.o.below hb⟩
end
def DeskPl (Dd : Nat) (w : World) (e : Ending) (w' : World) : Prop :=
  ∃ (u x : Value) (D : DeskD) (R : List Int), e = .returned (.agg #[u, x]) ∧ DeskO w' w.heap.size u x D ∧ PlC D.cs ∧ D.cs.length ≤ 4 ∧ PlK D.ks ∧ D.ks.length ≤ 6 ∧ DiceAt w' Dd R ∧ w.grownBy w' (some Dd)
end Go.Proofs.Ytjckpammcgeloaa
namespace Go.Proofs.Ytjckpammcgeloaa
open Go.RowKit

section
variable {w wr w' : World} {Dd B : Nat} {R R' : List Int} {u v : Value} {D : DeskD}
theorem PlS.up (h : PlS w wr Dd B R u v D) {r : Option Nat} (hg : wr.grownBy w' r) (hr : ∀ b, r = some b → B + 1 + 1 ≤ b) (j : Nat) (y : Value) : (∀ k, k ≤ B + 1 → w'.heap[k]? = wr.heap[k]?) ∧ DiceAt (w'.setCell ⟨B + 1, j, none⟩ y) Dd R ∧ w.grownBy (w'.setCell ⟨B + 1, j, none⟩ y) (some Dd) ∧ DeskCell (w'.setCell ⟨B + 1, j, none⟩ y) B (.slice none 0 0) (.slice none 0 0) ∧ DeskCell w' (B + 1) u v := by
  have hl := h.lo
  have hx := h.x.lt
  have hk : ∀ k, k ≤ B + 1 → w'.heap[k]? = wr.heap[k]? := fun k hk => hg.block k (by omega) (fun e => by have := hr k e.symm; omega)
  have hk2 : ∀ k, k ≤ B → (w'.setCell ⟨B + 1, j, none⟩ y).heap[k]? = wr.heap[k]? := fun k hk3 => (Below.heap_setCell w' ⟨B + 1, j, none⟩ y k (fun e => by have e2 : k = B + 1 := e; omega)).trans (hk k (by omega))
  have g0 := h.g
  have hn := h.n
  refine ⟨hk, h.d.keep fun k hk3 => hk2 k (by omega), ⟨hg.os.trans g0.os, hg.tape.trans g0.tape, hg.output.trans g0.output, by have := g0.size; have := hg.size; simp [World.setCell]; omega, fun k hk3 hne => (hk2 k (by omega)).trans (g0.block k hk3 hne)⟩, h.r.keep (hk2 B (Nat.le_refl _)), h.x.keep (hk _ (Nat.le_refl _))⟩
theorem PlS.more {X : List CouV} {x : CouV} {d : CouD} {g n cap : Nat} (h : PlS w wr Dd B R u v D) (hX : ElOwn EC 45 wr (B + 1 + 1) u X) (hC : CousV (fun b => B + 1 + 1 ≤ b ∧ u.ownBlock ≠ some b ∧ v.ownBlock ≠ some b) wr X D.cs)
    (hx : CouR (fun b => B + 1 + 1 ≤ b ∧ u.ownBlock ≠ some b ∧ v.ownBlock ≠ some b) wr x d) (ho : ElOwn EC 45 w' (B + 1 + 1) (.slice (some ⟨g, 0, none⟩) n cap) (X ++ [x])) (hg : wr.grownBy w' u.ownBlock) (hor : u.ownBlock = some g ∨ wr.heap.size ≤ g) :
    PlS w (w'.setCell ⟨B + 1, 0, none⟩ (.slice (some ⟨g, 0, none⟩) n cap)) Dd B R (.slice (some ⟨g, 0, none⟩) n cap) v ⟨D.cs ++ [d], D.ks⟩ := by
  obtain ⟨-, q2, q3, q4, q5⟩ := h.up hg (fun b e => (World.ownsRow.lt hX b e).1) 0 (.slice (some ⟨g, 0, none⟩) n cap)
  exact ⟨q2, q3, h.lo, h.n, q4, q5.set0 _, (h.o.pushC hX hC hx ho hg hor).set ⟨B + 1, 0, none⟩ _ (Nat.lt_succ_self _)⟩
theorem DeskO.pushK {base : Nat} {K' : List CaseD} {g n cap : Nat} (h : DeskO w base u v D) (ho : ElOwn EK 37 w' base (.slice (some ⟨g, 0, none⟩) n cap) K') (hg : w.grownBy w' v.ownBlock) (hor : v.ownBlock = some g ∨ w.heap.size ≤ g) : DeskO w' base u (.slice (some ⟨g, 0, none⟩) n cap) ⟨D.cs, K'⟩ := by
  obtain ⟨X, h1, h2⟩ := h.cs
  have hu : ∀ b, u.ownBlock = some b → b < w.heap.size ∧ v.ownBlock ≠ some b := fun b hb => ⟨(World.ownsRow.lt h1 b hb).2, h.ne b hb⟩
  refine ⟨⟨X, h1.kept (fun k hk => hg.block k (hu k hk).1 (fun e => (hu k hk).2 e.symm)), ?_⟩, ho, fun b hb e => ?_⟩
  · have q := (h2.mono (Q := fun b => base ≤ b ∧ u.ownBlock ≠ some b ∧ v.ownBlock ≠ some b ∧ g ≠ b) (fun b hl hb => ⟨hb.1, hb.2.1, hb.2.2, fun e => by
      rcases hor with h0 | h0
      · exact hb.2.2 (by rw [h0, e])
      · omega⟩)).keep (w' := w') (Kpt.grown hg (fun b hb => hb.2.2.1))
    exact q.mono (fun b _ hb => ⟨hb.1, hb.2.1, fun e => hb.2.2.2 (by injection e)⟩)
  · have e : some g = some b := e
    injection e with e
    rcases hor with h0 | h0
    · exact (hu b hb).2 (by rw [h0, e])
    · have := (hu b hb).1; omega
theorem PlS.case {K' : List CaseD} {g n cap : Nat} (h : PlS w wr Dd B R u v D) (ho : ElOwn EK 37 w' (B + 1 + 1) (.slice (some ⟨g, 0, none⟩) n cap) K') (hg : wr.grownBy w' v.ownBlock) (hor : v.ownBlock = some g ∨ wr.heap.size ≤ g) :
    DeskCell w' (B + 1) u v ∧ PlS w (w'.setCell ⟨B + 1, 1, none⟩ (.slice (some ⟨g, 0, none⟩) n cap)) Dd B R u (.slice (some ⟨g, 0, none⟩) n cap) ⟨D.cs, K'⟩ := by
  obtain ⟨-, q2, q3, q4, q5⟩ := h.up hg (fun b e => (World.ownsRow.lt h.o.ks b e).1) 1 (.slice (some ⟨g, 0, none⟩) n cap)
  exact ⟨q5, q2, q3, h.lo, h.n, q4, q5.set1 _, (h.o.pushK ho hg hor).set ⟨B + 1, 1, none⟩ _ (Nat.lt_succ_self _)⟩
end
/-! ### A counsellor of a desk is chosen by dice and put into a variable -/
structure PcJ (W0 : World) (Dd : Nat) (R : List Int) (row : Array Value) (V : Nat → Value) (L : Nat → Bool) (w : World) : Prop where
  g : W0.grownBy w (some Dd)
  d0 : L 6 = false → DiceAt w Dd R
  d1 : L 6 = true → DiceAt w Dd R.tail
  st : L 10 = true → L 9 = true
  a0 : L 9 = true → L 10 = false → ∃ nb, V 9 = .pointer (some ⟨nb, 0, none⟩) ∧ W0.heap.size ≤ nb ∧ CouB w nb cou0
  a1 : L 10 = true → ∃ nb, V 9 = .pointer (some ⟨nb, 0, none⟩) ∧ W0.heap.size ≤ nb ∧ CouB w nb row
section
variable {W0 w w' : World} {Dd : Nat} {R : List Int} {row : Array Value} {V : Nat → Value} {L : Nat → Bool}
theorem PcJ.start (hd : DiceAt W0 Dd R) (V : Nat → Value) : PcJ W0 Dd R row V (fun _ => false) W0.drew :=
  ⟨grown_of_below (Below.drew (Below.refl _ _)), fun _ => hd.below (Below.drew (Below.refl _ _)), fun e => (by cases e), fun e => (by cases e), fun e => (by cases e), fun e => (by cases e)⟩
theorem PcJ.mv (h : PcJ W0 Dd R row V L w) (i : Nat) (hi : 6 ≠ i ∧ 9 ≠ i ∧ 10 ≠ i) {v : Value} : PcJ W0 Dd R row (updV V i v) (upd L i) w := by
  obtain ⟨h1, h2, h3⟩ := hi
  refine ⟨h.g, ?_, ?_, ?_, ?_, ?_⟩
  · rw [upd_other _ h1]; exact h.d0
  · rw [upd_other _ h1]; exact h.d1
  · rw [upd_other _ h2, upd_other _ h3]; exact h.st
  · rw [upd_other _ h2, upd_other _ h3, updV_other _ _ h2]; exact h.a0
  · rw [upd_other _ h3, updV_other _ _ h2]; exact h.a1
theorem PcJ.cell (h : PcJ W0 Dd R row V L w) {b : Nat} (o : Nat) (hb : b < W0.heap.size) (hne : b ≠ Dd) : w.cell? ⟨b, o, none⟩ = W0.cell? ⟨b, o, none⟩ := World.cell?_of_block (w := W0) (h.g.block b hb (fun e => by injection e with e; exact hne e))
theorem PcJ.nx (h : PcJ W0 Dd R row V L w) (hL : L 6 = false) (hlt : Dd < W0.heap.size) (hd : DiceAt w' Dd R.tail) (hg : w.grownBy w' (some Dd)) {v : Value} : PcJ W0 Dd R row (updV V 6 v) (upd L 6) w' := by
  have k : ∀ {nb : Nat} {c : Array Value}, W0.heap.size ≤ nb → CouB w nb c → CouB w' nb c := fun {nb} {c} q1 q2 => (hg.block nb (blk_ltE q2) (fun e => by injection e with e; omega)).trans q2
  refine ⟨grown_trans h.g hg, ?_, fun _ => hd, ?_, ?_, ?_⟩
  · rw [upd_same]; intro e; cases e
  · rw [upd_other _ (by decide), upd_other _ (by decide)]; exact h.st
  · rw [upd_other _ (by decide), upd_other _ (by decide), updV_other _ _ (by decide)]
    intro e f
    obtain ⟨nb, q1, q2, q3⟩ := h.a0 e f
    exact ⟨nb, q1, q2, k q2 q3⟩
  · rw [upd_other _ (by decide), updV_other _ _ (by decide)]
    intro e
    obtain ⟨nb, q1, q2, q3⟩ := h.a1 e
    exact ⟨nb, q1, q2, k q2 q3⟩
theorem PcJ.oa (h : PcJ W0 Dd R row V L w) (hL : L 9 = false) : PcJ W0 Dd R row (updV V 9 (.pointer (some ⟨w.heap.size, 0, none⟩))) (upd L 9) (w.alloc (.cells cou0 45)) := by
  have hs : L 10 = false := by
    cases q : L 10 with
    | false => rfl
    | true => have := h.st q; rw [hL] at this; cases this
  have hb := below_alloc w (.cells cou0 45)
  refine ⟨grown_trans h.g (grown_of_below hb), ?_, ?_, ?_, ?_, ?_⟩
  · rw [upd_other _ (by decide)]; exact fun e => (h.d0 e).below hb
  · rw [upd_other _ (by decide)]; exact fun e => (h.d1 e).below hb
  · rw [upd_same]; exact fun _ => rfl
  · rw [updV_same]; exact fun _ _ => ⟨_, rfl, h.g.size, heap_alloc_new _ _⟩
  · rw [upd_other _ (by decide), hs]; intro e; cases e
theorem PcJ.os (h : PcJ W0 Dd R row V L w) (h9 : L 9 = true) (hL : L 10 = false) (hlt : Dd < W0.heap.size) : ∃ nb, V 9 = .pointer (some ⟨nb, 0, none⟩) ∧ CouB w nb cou0 ∧ ∀ w' v, CouB w' nb row → w.grownBy w' (some nb) → PcJ W0 Dd R row (updV V 10 v) (upd L 10) w' := by
  obtain ⟨nb, q1, q2, q3⟩ := h.a0 h9 hL
  refine ⟨nb, q1, q3, fun w' v hc hg => ?_⟩
  have hs := h.g.size
  have hd : ∀ {R : List Int}, DiceAt w Dd R → DiceAt w' Dd R := fun d => d.keep fun k hk => hg.block k (by omega) (fun e => by injection e with e; omega)
  have g0 := h.g
  refine ⟨⟨hg.os.trans g0.os, hg.tape.trans g0.tape, hg.output.trans g0.output, Nat.le_trans hs hg.size, fun k hk hne => (hg.block k (by omega) (fun e => by injection e with e; omega)).trans (g0.block k hk hne)⟩, ?_, ?_, ?_, ?_, ?_⟩
  · rw [upd_other _ (by decide)]; exact fun e => hd (h.d0 e)
  · rw [upd_other _ (by decide)]; exact fun e => hd (h.d1 e)
  · intro _; rw [upd_other _ (by decide)]; exact h9
  · rw [upd_same]; intro _ e; cases e
  · rw [updV_other _ _ (by decide)]; exact fun _ => ⟨nb, q1, q2, hc⟩
end
/-! ### A case is made by dice and appended -/
def okC (x : CaseD) : Prop := x.r.size ≤ 1000 ∧ x.o.size ≤ 1000
structure PkJ (w : World) (Dd B nb : Nat) (row : Array Value) (u v : Value) (C : List CouD) (K : List CaseD) (V : Nat → Value) (L : Nat → Bool) (W : World) : Prop where
  c6 : L 6 = true → L 5 = true
  c12 : L 12 = true → (L 6 = true ∧ L 11 = true) ∧ L 3 = true ∧ L 8 = true
  c13 : L 13 = true → L 12 = true
  c14 : L 14 = true → L 13 = true ∧ L 1 = true
  c16 : L 16 = true → L 14 = true
  p : L 14 = false → (∃ R, PlS w W Dd B R u v ⟨C, K⟩) ∧ CouB W nb row
  p5 : L 5 = true → L 14 = false → ∃ A c, V 5 = .slice A 3 c ∧ ElP ES (fun b => b ≠ Dd) W A c [bAnn, bBob, bCid]
  p13 : L 13 = true → L 14 = false → ∃ W1 x R, W = W1.alloc (.cells (EK.f x).toArray 37) ∧ V 13 = .slice (some ⟨W1.heap.size, 0, none⟩) 1 1 ∧ okC x ∧ PlS w W1 Dd B R u v ⟨C, K⟩
  p14 : L 14 = true → L 16 = false → ∃ R x g n cap, okC x ∧ V 14 = .slice (some ⟨g, 0, none⟩) n cap ∧ DeskCell W (B + 1) u v ∧ PlS w (W.setCell ⟨B + 1, 1, none⟩ (V 14)) Dd B R u (V 14) ⟨C, K ++ [x]⟩
  p16 : L 16 = true → ∃ R x, okC x ∧ PlS w W Dd B R u (V 14) ⟨C, K ++ [x]⟩
section
variable {w W W' : World} {Dd B nb : Nat} {row : Array Value} {u v : Value} {C : List CouD} {K : List CaseD} {V : Nat → Value} {L : Nat → Bool}
theorem PkJ.start {R : List Int} (h : PlS w W Dd B R u v ⟨C, K⟩) (hc : CouB W nb row) (V : Nat → Value) : PkJ w Dd B nb row u v C K V (fun _ => false) W.drew :=
  ⟨fun e => (by cases e), fun e => (by cases e), fun e => (by cases e), fun e => (by cases e), fun e => (by cases e), fun _ => ⟨⟨R, h.below (Below.drew (Below.refl _ _))⟩, hc.below (Below.drew (Below.refl _ _))⟩, fun e => (by cases e), fun e => (by cases e), fun e => (by cases e), fun e => (by cases e)⟩
theorem PkJ.mv (h : PkJ w Dd B nb row u v C K V L W) (i : Nat) (hi : 5 ≠ i ∧ 6 ≠ i ∧ 11 ≠ i ∧ 12 ≠ i ∧ 13 ≠ i ∧ 14 ≠ i ∧ 16 ≠ i) {x : Value} : PkJ w Dd B nb row u v C K (updV V i x) (upd L i) W := by
  obtain ⟨h5, h6, h11, h12, h13, h14, h16⟩ := hi
  obtain ⟨q1, q2, q3, q4, q5, q6, q7, q8, q9, q10⟩ := h
  refine ⟨?_, fun e => ?_, ?_, fun e => ?_, ?_, ?_, ?_, ?_, ?_, ?_⟩
  · simp only [upd_other _ h5, upd_other _ h6]; exact q1
  · rw [upd_other _ h12] at e; exact ⟨⟨upd_keep L i (q2 e).1.1, upd_keep L i (q2 e).1.2⟩, upd_keep L i (q2 e).2.1, upd_keep L i (q2 e).2.2⟩
  · simp only [upd_other _ h12, upd_other _ h13]; exact q3
  · rw [upd_other _ h14] at e; exact ⟨upd_keep L i (q4 e).1, upd_keep L i (q4 e).2⟩
  all_goals (simp only [upd_other _ h5, updV_other _ _ h5, upd_other _ h13, upd_other _ h14, upd_other _ h16, updV_other _ _ h13, updV_other _ _ h14] <;> assumption)
theorem PkJ.no (h : PkJ w Dd B nb row u v C K V L W) {i : Nat} (hi : i = 5 ∨ i = 6 ∨ i = 11 ∨ i = 12 ∨ i = 13 ∨ i = 14) (hL : L i = false) : L 16 = false ∧ (i ≠ 14 → L 14 = false ∧ (i ≠ 13 → L 13 = false ∧ (i ≠ 12 → L 12 = false ∧ (i = 5 → L 6 = false)))) := by
  have t16 : L 14 = false → L 16 = false := fun q => by
    cases r : L 16 with
    | false => rfl
    | true => have := h.c16 r; rw [q] at this; cases this
  have t14 : L 13 = false → L 14 = false := fun q => by
    cases r : L 14 with
    | false => rfl
    | true => have := (h.c14 r).1; rw [q] at this; cases this
  have t13 : L 12 = false → L 13 = false := fun q => by
    cases r : L 13 with
    | false => rfl
    | true => have := h.c13 r; rw [q] at this; cases this
  have t12 : L 6 = false ∨ L 11 = false → L 12 = false := fun q => by
    cases r : L 12 with
    | false => rfl
    | true =>
      have := (h.c12 r).1
      rcases q with q | q
      · rw [q] at this; cases this.1
      · rw [q] at this; cases this.2
  have t6 : L 5 = false → L 6 = false := fun q => by
    cases r : L 6 with
    | false => rfl
    | true => have := h.c6 r; rw [q] at this; cases this
  rcases hi with rfl | rfl | rfl | rfl | rfl | rfl
  · have a6 := t6 hL; have a12 := t12 (.inl a6); have a13 := t13 a12; have a14 := t14 a13
    exact ⟨t16 a14, fun _ => ⟨a14, fun _ => ⟨a13, fun _ => ⟨a12, fun _ => a6⟩⟩⟩⟩
  · have a12 := t12 (.inl hL); have a13 := t13 a12; have a14 := t14 a13
    exact ⟨t16 a14, fun _ => ⟨a14, fun _ => ⟨a13, fun _ => ⟨a12, fun e => absurd e (by decide)⟩⟩⟩⟩
  · have a12 := t12 (.inr hL); have a13 := t13 a12; have a14 := t14 a13
    exact ⟨t16 a14, fun _ => ⟨a14, fun _ => ⟨a13, fun _ => ⟨a12, fun e => absurd e (by decide)⟩⟩⟩⟩
  · have a13 := t13 hL; have a14 := t14 a13
    exact ⟨t16 a14, fun _ => ⟨a14, fun _ => ⟨a13, fun e => absurd rfl e⟩⟩⟩
  · have a14 := t14 hL
    exact ⟨t16 a14, fun _ => ⟨a14, fun e => absurd rfl e⟩⟩
  · exact ⟨t16 hL, fun e => absurd rfl e⟩
/-- The literal, and the two calls. -/
theorem PkJ.tn (h : PkJ w Dd B nb row u v C K V L W) (i : Nat) (hi : i = 5 ∨ i = 6 ∨ i = 11) (h5 : i = 6 → L 5 = true) (hL : L i = false) (hnb : nb ≠ Dd) {x : Value} (ht : ∀ R, PlS w W Dd B R u v ⟨C, K⟩ → ∃ R', PlS w W' Dd B R' u v ⟨C, K⟩) (hk : Kpt (fun b => b ≠ Dd) W W') (hx : i = 5 → ∃ A c, x = .slice A 3 c ∧ ElP ES (fun b => b ≠ Dd) W' A c [bAnn, bBob, bCid]) : PkJ w Dd B nb row u v C K (updV V i x) (upd L i) W' := by
  obtain ⟨n16, n⟩ := h.no (by rcases hi with rfl | rfl | rfl <;> simp) hL
  obtain ⟨n14, n⟩ := n (by rcases hi with rfl | rfl | rfl <;> decide)
  obtain ⟨n13, n⟩ := n (by rcases hi with rfl | rfl | rfl <;> decide)
  obtain ⟨n12, n⟩ := n (by rcases hi with rfl | rfl | rfl <;> decide)
  have e12 : upd L i 12 = false := by rw [upd_other _ (by rcases hi with rfl | rfl | rfl <;> decide)]; exact n12
  have e13 : upd L i 13 = false := by rw [upd_other _ (by rcases hi with rfl | rfl | rfl <;> decide)]; exact n13
  have e14 : upd L i 14 = false := by rw [upd_other _ (by rcases hi with rfl | rfl | rfl <;> decide)]; exact n14
  have e16 : upd L i 16 = false := by rw [upd_other _ (by rcases hi with rfl | rfl | rfl <;> decide)]; exact n16
  refine ⟨?_, fun e => (by rw [e12] at e; cases e), fun e => (by rw [e13] at e; cases e), fun e => (by rw [e14] at e; cases e), fun e => (by rw [e16] at e; cases e), fun _ => ?_, fun e _ => ?_, fun e => (by rw [e13] at e; cases e), fun e => (by rw [e14] at e; cases e), fun e => (by rw [e16] at e; cases e)⟩
  · rcases hi with rfl | rfl | rfl
    · rw [upd_same]; exact fun _ => rfl
    · intro _; rw [upd_other _ (by decide)]; exact h5 rfl
    · rw [upd_other _ (by decide), upd_other _ (by decide)]; exact h.c6
  · obtain ⟨⟨R, h1⟩, h2⟩ := h.p n14
    exact ⟨ht R h1, (hk.block nb hnb (blk_ltE h2)).trans h2⟩
  · by_cases e5 : i = 5
    · subst e5; rw [updV_same]; exact hx rfl
    · rw [upd_other _ (Ne.symm e5)] at e
      rw [updV_other _ _ (Ne.symm e5)]
      obtain ⟨A, c, r1, r2⟩ := h.p5 e n14
      exact ⟨A, c, r1, r2.keep hk⟩
theorem PkJ.e14 (h : PkJ w Dd B nb row u v C K V L W) {i : Nat} (hi : i = 1 ∨ i = 3 ∨ i = 8) (hL : L i = false) : L 14 = false := by
  cases r : L 14 with
  | false => rfl
  | true =>
    have h1 := h.c14 r
    have h2 := (h.c12 (h.c13 h1.1)).2
    rcases hi with rfl | rfl | rfl
    · rw [hL] at h1; cases h1.2
    · rw [hL] at h2; cases h2.1
    · rw [hL] at h2; cases h2.2
theorem PkJ.o12 (h : PkJ w Dd B nb row u v C K V L W) (h6 : L 6 = true) (h11 : L 11 = true) (h3 : L 3 = true) (h8 : L 8 = true) (hL : L 12 = false) {x : Value} : PkJ w Dd B nb row u v C K (updV V 12 x) (upd L 12) W := by
  obtain ⟨n16, n⟩ := h.no (i := 12) (by simp) hL
  obtain ⟨n14, n⟩ := n (by decide)
  obtain ⟨n13, -⟩ := n (by decide)
  refine ⟨?_, fun _ => ⟨⟨?_, ?_⟩, upd_keep L 12 h3, upd_keep L 12 h8⟩, ?_, ?_, ?_, ?_, fun e _ => (by rw [updV_other _ _ (by decide)]; rw [upd_other _ (by decide)] at e; exact h.p5 e n14), ?_, ?_, ?_⟩
  · rw [upd_other _ (by decide), upd_other _ (by decide)]; exact h.c6
  · rw [upd_other _ (by decide)]; exact h6
  · rw [upd_other _ (by decide)]; exact h11
  · rw [upd_same]; exact fun _ => rfl
  · exact fun e => (by rw [upd_other _ (by decide), n14] at e; cases e)
  · rw [upd_other _ (by decide), upd_other _ (by decide)]; exact h.c16
  · rw [upd_other _ (by decide)]; exact h.p
  · rw [upd_other _ (by decide), n13]; intro e; cases e
  · rw [upd_other _ (by decide), n14]; intro e; cases e
  · rw [upd_other _ (by decide), n16]; intro e; cases e
theorem PkJ.o13 (h : PkJ w Dd B nb row u v C K V L W) (h12 : L 12 = true) (hL : L 13 = false) {x : CaseD} (hx : okC x) : PkJ w Dd B nb row u v C K (updV V 13 (.slice (some ⟨W.heap.size, 0, none⟩) 1 1)) (upd L 13) (W.alloc (.cells (EK.f x).toArray 37)) := by
  obtain ⟨n16, n⟩ := h.no (i := 13) (by simp) hL
  obtain ⟨n14, -⟩ := n (by decide)
  obtain ⟨⟨R, h1⟩, h2⟩ := h.p n14
  have hb := below_alloc W (.cells (EK.f x).toArray 37)
  refine ⟨?_, ?_, ?_, ?_, ?_, fun _ => ⟨⟨R, h1.below hb⟩, h2.below hb⟩, fun e _ => (by rw [updV_other _ _ (by decide)]; rw [upd_other _ (by decide)] at e; obtain ⟨A, c, r1, r2⟩ := h.p5 e n14; exact ⟨A, c, r1, r2.below hb⟩), fun _ _ => ⟨W, x, R, rfl, by rw [updV_same], hx, h1⟩, ?_, ?_⟩
  · rw [upd_other _ (by decide), upd_other _ (by decide)]; exact h.c6
  · exact fun e => (by rw [upd_other _ (by decide)] at e; have q := h.c12 e; exact ⟨⟨upd_keep L _ q.1.1, upd_keep L _ q.1.2⟩, upd_keep L _ q.2.1, upd_keep L _ q.2.2⟩)
  · intro _; rw [upd_other _ (by decide)]; exact h12
  · exact fun e => (by rw [upd_other _ (by decide), n14] at e; cases e)
  · rw [upd_other _ (by decide), upd_other _ (by decide)]; exact h.c16
  · rw [upd_other _ (by decide), n14]; intro e; cases e
  · rw [upd_other _ (by decide), n16]; intro e; cases e
theorem PkJ.o14 (h : PkJ w Dd B nb row u v C K V L W) (h13 : L 13 = true) (h1L : L 1 = true) (hL : L 14 = false) (hl : K.length ≤ 1000) : ∃ y v' W', V 13 = y ∧ (Builtin.append_ #[28, 28] 28 #[v, y]).run Try.prog W = .ok v' W' ∧ PkJ w Dd B nb row u v C K (updV V 14 v') (upd L 14) W' := by
  obtain ⟨n16, -⟩ := h.no (i := 14) (by simp) hL
  obtain ⟨W1, x, R, rfl, e13, hx, h1⟩ := h.p13 h13 hL
  obtain ⟨g, cap, W', r1, r2, r3, r4⟩ := apk_run x h1.o.ks (by show K.length + 1 ≤ _; omega) (by have := h1.x.lt; omega)
  obtain ⟨s1, s2⟩ := h1.case r2 r3 r4
  refine ⟨_, _, W', e13, r1, ?_⟩
  refine ⟨?_, ?_, ?_, fun _ => ?_, ?_, ?_, fun _ e => (by rw [upd_same] at e; cases e), ?_, fun _ _ => ⟨R, x, g, _, cap, hx, by rw [updV_same], s1, by rw [updV_same]; exact s2⟩, ?_⟩
  · rw [upd_other _ (by decide), upd_other _ (by decide)]; exact h.c6
  · exact fun e => (by rw [upd_other _ (by decide)] at e; have q := h.c12 e; exact ⟨⟨upd_keep L _ q.1.1, upd_keep L _ q.1.2⟩, upd_keep L _ q.2.1, upd_keep L _ q.2.2⟩)
  · rw [upd_other _ (by decide), upd_other _ (by decide)]; exact h.c13
  · exact ⟨upd_keep L 14 h13, upd_keep L 14 h1L⟩
  · rw [upd_same]; exact fun _ => rfl
  · rw [upd_same]; intro e; cases e
  · rw [upd_same]; intro _ e; cases e
  · rw [upd_other _ (by decide), n16]; intro e; cases e
theorem PkJ.o16 (h : PkJ w Dd B nb row u v C K V L W) (h14 : L 14 = true) (hL : L 16 = false) : ∃ g n cap, V 14 = .slice (some ⟨g, 0, none⟩) n cap ∧ DeskCell W (B + 1) u v ∧ ∀ y, PkJ w Dd B nb row u v C K (updV V 16 y) (upd L 16) (W.setCell ⟨B + 1, 1, none⟩ (.slice (some ⟨g, 0, none⟩) n cap)) := by
  obtain ⟨R, x, g, n, cap, hx, e14, h1, h2⟩ := h.p14 h14 hL
  refine ⟨g, n, cap, e14, h1, fun y => ⟨?_, ?_, ?_, ?_, fun _ => ?_, ?_, fun _ e => (by rw [upd_other _ (by decide), h14] at e; cases e), ?_, ?_, fun _ => ⟨R, x, hx, ?_⟩⟩⟩
  · rw [upd_other _ (by decide), upd_other _ (by decide)]; exact h.c6
  · exact fun e => (by rw [upd_other _ (by decide)] at e; have q := h.c12 e; exact ⟨⟨upd_keep L _ q.1.1, upd_keep L _ q.1.2⟩, upd_keep L _ q.2.1, upd_keep L _ q.2.2⟩)
  · rw [upd_other _ (by decide), upd_other _ (by decide)]; exact h.c13
  · exact fun e => (by rw [upd_other _ (by decide)] at e; exact ⟨upd_keep L 16 (h.c14 e).1, upd_keep L 16 (h.c14 e).2⟩)
  · rw [upd_other _ (by decide)]; exact h14
  · rw [upd_other _ (by decide), h14]; intro e; cases e
  · rw [upd_other _ (by decide), upd_other _ (by decide), h14]; intro _ e; cases e
  · rw [upd_same]; intro _ e; cases e
  · rw [updV_other _ _ (by decide)]; rw [e14] at h2 ⊢; exact h2
end
end Go.Proofs.Ytjckpammcgeloaa
