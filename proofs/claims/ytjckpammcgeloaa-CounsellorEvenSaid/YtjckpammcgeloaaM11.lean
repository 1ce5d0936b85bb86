/-
  Desks: equal ones (desks).
  Desks: what the program and the document answer agrees.
  Desks: the sanity check of the statements.
  Desks: cases of different respondents are divided evenly (the law behind CounsellorEven, checked by the kernel).
  CounsellorEven's walk.
  Conditions: those that each theorem names.
-/
import Derived.Test.YtjckpammcgeloaaM10
import Derived.Laws.IdiomStrings
set_option linter.unusedVariables false
set_option linter.unusedSimpArgs false
namespace Go.Proofs.Ytjckpammcgeloaa
open Go.RowKit

theorem sameT_self (S : List ByteArray) : sameT S S = true := sameT_iff.2 rfl
theorem CouC.below {w w' : World} {x : Nat} {id : Int} {o : ByteArray} {v : Value} (h : w.heap[x]? = some (.cells #[.int .i64 id, .string o, v] 45 (0, 0))) (hb : Below w.heap.size w w') : w'.heap[x]? = some (.cells #[.int .i64 id, .string o, v] 45 (0, 0)) := (hb.block x (blk_ltE h)).trans h
set_option maxRecDepth 100000 in
set_option maxHeartbeats 2000000 in
theorem same1_any {P P' : Nat → Prop} (x y : CouV) (d : CouD) (w : World) (hx : CouR P w x d) (hy : CouR P' w y d) (hl : d.away.length ≤ 100000) :
  Calls Try.prog 72 #[couV x, couV y] w (RetB (.bool true) w) := by
 obtain ⟨xi, xo, xA, xn, xc⟩ := x
 obtain ⟨yi, yo, yA, yn, yc⟩ := y
 have e1 : xi = d.id := hx.id
 have e2 : xo = d.o := hx.o
 have e3 : xn = d.away.length := hx.n
 have e4 : yi = d.id := hy.id
 have e5 : yo = d.o := hy.o
 have e6 : yn = d.away.length := hy.n
 have HX := Lib.hid (show ElP ES P w xA xc d.away from hx.away)
 have HY := Lib.hid (show ElP ES P' w yA yc d.away from hy.away)
 subst e1 e2 e3 e4 e5 e6
 clear hx hy
 go_enter Try.func72, Try.ntmps72
 go_wp2_with fail
 refine gen_calls fun w1 hw1 => ?_
 have HB := Lib.hid (show Below w.heap.size w w1 from by rw [hw1]; exact bl_alloc _ (below_alloc _ _))
 clear hw1
 refine ret_below (equalT_any xA yA d.away d.away xc yc w1 (HX.out.below HB.out) (HY.out.below HB.out) hl) fun w2 hb => ?_
 rw [sameT_self]
 have HB2 := Lib.hid (below_trans HB.out hb)
 clear hb
 go_wp2_with fail
 go_ret
 exact RetB.bool rfl HB2.out
set_option maxRecDepth 100000 in
set_option maxHeartbeats 2000000 in
theorem equalFn_any {P P' : Nat → Prop} (A A' : Option Addr) (C : List CouD) (c c' : Nat) (w : World) (hC : CousP P w A c C) (hC' : CousP P' w A' c' C) (hl : C.length ≤ 100000) (ha : ∀ k, k < C.length → (cAt C k).away.length ≤ 100000) :
  Calls Try.prog 71 #[.slice A C.length c, .slice A' C.length c', .func (.func 72) #[] #[]] w (RetB (.bool true) w) := by
 have HC := Lib.hid hC
 have HC2 := Lib.hid hC'
 have HA := Lib.hid ha
 clear hC hC' ha
 go_enter Try.func71, Try.ntmps71
 go_wp2_with fail
 go_loopw [17] (fun i wr => ∃ k : Nat, k ≤ C.length ∧ i = .int .i64 k ∧ Below w.heap.size w wr) (fun i _ => C.length - (intOf i).toNat)
 case atStart => exact ⟨0, Nat.zero_le _, rfl, Below.refl _ _⟩
 case round =>
  obtain ⟨k, hk, rfl, hbr⟩ := hrel
  have HBR := Lib.hid hbr
  by_cases hlt : k < C.length
  ·
   obtain ⟨b, off, x, rfl, hbl, -, c0, c1, c2, hx⟩ := (HC.out.below hbr).elem hlt
   obtain ⟨b', off', y, rfl, hbl', -, d0, d1, d2, hy⟩ := (HC2.out.below hbr).elem hlt
   have hk0 : (0 : Int) ≤ (k : Int) := by omega
   have hkl : (k : Int) < (C.length : Int) := by omega
   have hal := HA.out k hlt
   have HX := Lib.hid hx
   have HY := Lib.hid hy
   clear hx hy hbr
   generalize cAt C k = d at *
   go_wp2_with fail
   refine gen_calls fun w1 hw1 => ?_
   have HB := Lib.hid (show Below wr.heap.size wr w1 from by rw [hw1]; exact bl_alloc _ (below_alloc _ _))
   clear hw1 c0 c1 c2 d0 d1 d2
   refine ret_below (same1_any x y d w1 (HX.out.keep (Kpt.below HB.out)) (HY.out.keep (Kpt.below HB.out)) hal) fun w2 hb => ?_
   have HBF := Lib.hid (below_trans HBR.out (below_trans HB.out hb))
   clear hb
   go_wp2_with fail
   go_roundw
   case rel => exact ⟨k + 1, by omega, by go_num, HBF.out⟩
   case measure => simp [intOf]; omega
  ·
   have hkl : ¬ (k : Int) < (C.length : Int) := by omega
   go_wp2_with fail
   go_ret
   exact RetB.bool rfl HBR.out
set_option maxRecDepth 100000 in
set_option maxHeartbeats 2000000 in
theorem sameD_any {P P' : Nat → Prop} (u v : Value) (D : DeskD) (w : World) (hD : DeskR P w u D) (hE : DeskR P' w v D) (sD : DeskS D) :
  Calls Try.prog 63 #[u, v] w (RetB (.bool true) w) := by
 obtain ⟨A, ca, B, cb, rfl, h1, h2⟩ := hD
 obtain ⟨A', ca', B', cb', rfl, h3, h4⟩ := hE
 have H1 := Lib.hid h1
 have H2 := Lib.hid h2
 have H3 := Lib.hid h3
 have H4 := Lib.hid h4
 have HS := Lib.hid sD
 clear h1 h2 h3 h4 sD
 go_enter Try.func63, Try.ntmps63
 go_wp2_with fail
 refine gen_calls fun w1 hw1 => ?_
 have HB := Lib.hid (show Below w.heap.size w w1 from by rw [hw1]; exact bl_alloc _ (below_alloc _ _))
 have HD1 := Lib.hid (show DeskCell w1 w.heap.size (.slice A D.cs.length ca) (.slice B D.ks.length cb) from by rw [hw1]; exact (DeskCell.new _ _ rfl).below (below_alloc _ _))
 have HD2 := Lib.hid (show DeskCell w1 (w.heap.size + 1) (.slice A' D.cs.length ca') (.slice B' D.ks.length cb') from by rw [hw1]; exact DeskCell.new _ _ (by simp))
 clear hw1
 refine ret_below (equalK_any B B' D.ks cb cb' w1 (H2.out.below HB.out) (H4.out.below HB.out) (by have := HS.out.lk; omega)) fun w2 hb => ?_
 replace HB := Lib.hid (below_trans HB.out hb)
 have d0 := (HD1.out.below hb).c0
 have e0 := (HD2.out.below hb).c0
 have l0 := (HD1.out.below hb).lt
 have l1 := (HD2.out.below hb).lt
 clear hb
 go_wp2_with fail
 refine ret_below (equalFn_any A A' D.cs ca ca' w2 (H1.out.below HB.out) (H3.out.below HB.out) (by have := HS.out.lc; omega) (fun k hk => by have := (HS.out.co k hk).2.1; omega)) fun w3 hb => ?_
 replace HB := Lib.hid (below_trans HB.out hb)
 clear hb d0 e0 l0 l1
 go_wp2_with fail
 go_ret
 exact RetB.bool rfl HB.out

/-! ### Two variables made and filled in one statement -/
abbrev cou0 : Array Value := #[.int .i64 0, .string ⟨#[]⟩, .slice none 0 0]
def CouB (w : World) (n : Nat) (cs : Array Value) : Prop := w.heap[n]? = some (.cells cs 45 (0, 0))
theorem CouB.below {w w' : World} {x : Nat} {cs : Array Value} (h : CouB w x cs) (hb : Below w.heap.size w w') : CouB w' x cs := (hb.block x (blk_ltE h)).trans h
theorem al_cou (w : World) : (Instr.alloc 45 true (.tuple #[])).run Try.prog w = .ok (.pointer (some ⟨w.heap.size, 0, none⟩)) (w.alloc (.cells cou0 45)) := by
 go_simp
theorem st_cou {w : World} {x : Nat} (h : CouB w x cou0) (id : Int) (o : ByteArray) (A : Option Addr) (n c : Nat) : ∃ w', (Instr.storeAt 45 (.pointer (some ⟨x, 0, none⟩)) (.agg #[.int .i64 id, .string o, .slice A n c])).run Try.prog w = .ok () w' ∧ CouB w' x #[.int .i64 id, .string o, .slice A n c] ∧ w'.heap.size = w.heap.size ∧ (∀ k, k ≠ x → w'.heap[k]? = w.heap[k]?) ∧ w.grownBy w' (some x) := by
 have h0 : w.cell? ⟨x, 0, none⟩ = some (.int .i64 0) := by rw [cell_of_row _ _ 0 _ _ (0, 0) h]; rfl
 have h1 : w.cell? ⟨x, 1, none⟩ = some (.string ⟨#[]⟩) := by rw [cell_of_row _ _ 1 _ _ (0, 0) h]; rfl
 have h2 : w.cell? ⟨x, 2, none⟩ = some (.slice none 0 0) := by rw [cell_of_row _ _ 2 _ _ (0, 0) h]; rfl
 have f0 : w.frozen? ⟨x, 0, none⟩ = false := by unfold CouB at h; simp [World.frozen?, h]
 have f1 : w.frozen? ⟨x, 1, none⟩ = false := by unfold CouB at h; simp [World.frozen?, h]
 have f2 : w.frozen? ⟨x, 2, none⟩ = false := by unfold CouB at h; simp [World.frozen?, h]
 have hk : ∀ k, k ≠ x → (((w.setCell ⟨x, 0, none⟩ (.int .i64 id)).setCell ⟨x, 1, none⟩ (.string o)).setCell ⟨x, 2, none⟩ (.slice A n c)).heap[k]? = w.heap[k]? := fun k hk => (Below.heap_setCell _ _ _ k hk).trans ((Below.heap_setCell _ _ _ k hk).trans (Below.heap_setCell _ _ _ k hk))
 refine ⟨((w.setCell ⟨x, 0, none⟩ (.int .i64 id)).setCell ⟨x, 1, none⟩ (.string o)).setCell ⟨x, 2, none⟩ (.slice A n c), by go_simp, ?_, by simp [World.setCell], hk, ⟨rfl, rfl, rfl, by simp [World.setCell], fun k _ hne => hk k (fun e => hne (by rw [e]))⟩⟩
 unfold CouB at h ⊢; simp [World.setCell, Array.getElem?_modify, h]
structure TwJ (W0 : World) (a1 a2 s1 s2 : Nat) (C1 C2 : Array Value) (V : Nat → Value) (L : Nat → Bool) (w : World) : Prop where
 b : Below W0.heap.size W0 w
 p1 : L s1 = true → L a1 = true
 p2 : L s2 = true → L a2 = true
 v1 : L a1 = true → ∃ n, V a1 = .pointer (some ⟨n, 0, none⟩) ∧ W0.heap.size ≤ n ∧ n < w.heap.size ∧ (L s1 = false → CouB w n cou0) ∧ (L s1 = true → CouB w n C1) ∧ (L a2 = true → V a2 ≠ .pointer (some ⟨n, 0, none⟩))
 v2 : L a2 = true → ∃ n, V a2 = .pointer (some ⟨n, 0, none⟩) ∧ W0.heap.size ≤ n ∧ n < w.heap.size ∧ (L s2 = false → CouB w n cou0) ∧ (L s2 = true → CouB w n C2) ∧ (L a1 = true → V a1 ≠ .pointer (some ⟨n, 0, none⟩))
section
variable {W0 w w' : World} {a1 a2 s1 s2 : Nat} {C1 C2 : Array Value} {V : Nat → Value} {L : Nat → Bool}
theorem TwJ.swap (h : TwJ W0 a1 a2 s1 s2 C1 C2 V L w) : TwJ W0 a2 a1 s2 s1 C2 C1 V L w := ⟨h.b, h.p2, h.p1, h.v2, h.v1⟩
theorem TwJ.start (V : Nat → Value) : TwJ W0 a1 a2 s1 s2 C1 C2 V (fun _ => false) W0.drew :=
 ⟨Below.drew (Below.refl _ _), fun e => (by cases e), fun e => (by cases e), fun e => (by cases e), fun e => (by cases e)⟩
theorem TwJ.mv (h : TwJ W0 a1 a2 s1 s2 C1 C2 V L w) (i : Nat) (hi : a1 ≠ i ∧ a2 ≠ i ∧ s1 ≠ i ∧ s2 ≠ i) {v : Value} : TwJ W0 a1 a2 s1 s2 C1 C2 (updV V i v) (upd L i) w := by
 obtain ⟨h1, h2, h3, h4⟩ := hi
 refine ⟨h.b, ?_, ?_, ?_, ?_⟩
 ·
  rw [upd_other _ h1, upd_other _ h3]; exact h.p1
 ·
  rw [upd_other _ h2, upd_other _ h4]; exact h.p2
 ·
  rw [upd_other _ h1, upd_other _ h2, upd_other _ h3, updV_other _ _ h1, updV_other _ _ h2]; exact h.v1
 ·
  rw [upd_other _ h1, upd_other _ h2, upd_other _ h4, updV_other _ _ h1, updV_other _ _ h2]; exact h.v2
theorem TwJ.al1 (h : TwJ W0 a1 a2 s1 s2 C1 C2 V L w) (hn : a1 ≠ a2 ∧ a1 ≠ s1 ∧ a1 ≠ s2) (q : L a1 = false) : TwJ W0 a1 a2 s1 s2 C1 C2 (updV V a1 (.pointer (some ⟨w.heap.size, 0, none⟩))) (upd L a1) (w.alloc (.cells cou0 45)) := by
 have hb := below_alloc w (.cells cou0 45)
 have qs : L s1 = false := by
  cases e : L s1 with
  | false => rfl
  | true => have := h.p1 e; rw [q] at this; cases this
 obtain ⟨h2, h3, h4⟩ := hn
 refine ⟨below_trans h.b (hb.mono (Nat.le_refl _)), ?_, ?_, ?_, ?_⟩
 ·
  rw [upd_same]; exact fun _ => rfl
 ·
  rw [upd_other _ h2.symm, upd_other _ h4.symm]; exact h.p2
 ·
  rw [upd_same, upd_other _ h3.symm, upd_other _ h2.symm, updV_same, updV_other _ _ h2.symm]
  intro _
  refine ⟨_, rfl, h.b.size, by simp, fun _ => heap_alloc_new w _, fun e => (by rw [qs] at e; cases e), fun e e2 => ?_⟩
  obtain ⟨n, r1, -, r3, -⟩ := h.v2 e
  rw [r1] at e2
  injection e2 with e2; injection e2 with e2; injection e2 with e2
  omega
 ·
  rw [upd_same, upd_other _ h2.symm, upd_other _ h4.symm, updV_same, updV_other _ _ h2.symm]
  intro e
  obtain ⟨n, r1, r2, r3, r4, r5, -⟩ := h.v2 e
  refine ⟨n, r1, r2, Nat.lt_of_lt_of_le r3 hb.size, fun e => (r4 e).below hb, fun e => (r5 e).below hb, fun _ e2 => ?_⟩
  injection e2 with e2; injection e2 with e2; injection e2 with e2
  omega
theorem TwJ.al2 (h : TwJ W0 a1 a2 s1 s2 C1 C2 V L w) (hn : a2 ≠ a1 ∧ a2 ≠ s2 ∧ a2 ≠ s1) (q : L a2 = false) : TwJ W0 a1 a2 s1 s2 C1 C2 (updV V a2 (.pointer (some ⟨w.heap.size, 0, none⟩))) (upd L a2) (w.alloc (.cells cou0 45)) := (h.swap.al1 hn q).swap
theorem TwJ.st1 {id : Int} {o : ByteArray} {A : Option Addr} {n c : Nat} (h : TwJ W0 a1 a2 s1 s2 #[.int .i64 id, .string o, .slice A n c] C2 V L w) (hn : s1 ≠ a1 ∧ s1 ≠ a2 ∧ s1 ≠ s2) (qa : L a1 = true) (qs : L s1 = false) :
  ∃ w', (Instr.storeAt 45 (V a1) (.agg #[.int .i64 id, .string o, .slice A n c])).run Try.prog w = .ok () w' ∧ ∀ v, TwJ W0 a1 a2 s1 s2 #[.int .i64 id, .string o, .slice A n c] C2 (updV V s1 v) (upd L s1) w' := by
 obtain ⟨m, r1, r2, r3, r4, -, r6⟩ := h.v1 qa
 obtain ⟨w', t1, t2, t3, t4, t5⟩ := st_cou (r4 qs) id o A n c
 rw [r1]
 refine ⟨w', t1, fun v => ?_⟩
 obtain ⟨h1, h2, h3⟩ := hn
 refine ⟨h.b.trans ((Below.refl W0.heap.size w).grown t5 h.b.size (fun j hj => by injection hj with hj; omega)), ?_, ?_, ?_, ?_⟩
 ·
  rw [upd_other _ h1.symm]; exact fun _ => qa
 ·
  rw [upd_other _ h2.symm, upd_other _ h3.symm]; exact h.p2
 ·
  rw [upd_other _ h1.symm, upd_same, upd_other _ h2.symm, updV_other _ _ h1.symm, updV_other _ _ h2.symm]
  exact fun _ => ⟨m, r1, r2, by omega, fun e => (by cases e), fun _ => t2, r6⟩
 ·
  rw [upd_other _ h1.symm, upd_other _ h2.symm, upd_other _ h3.symm, updV_other _ _ h1.symm, updV_other _ _ h2.symm]
  intro e
  obtain ⟨k, u1, u2, u3, u4, u5, u6⟩ := h.v2 e
  have hkm : k ≠ m := fun e2 => u6 qa (by rw [r1, e2])
  exact ⟨k, u1, u2, by omega, fun e => (t4 k hkm).trans (u4 e), fun e => (t4 k hkm).trans (u5 e), u6⟩
theorem TwJ.st2 {id : Int} {o : ByteArray} {A : Option Addr} {n c : Nat} (h : TwJ W0 a1 a2 s1 s2 C1 #[.int .i64 id, .string o, .slice A n c] V L w) (hn : s2 ≠ a2 ∧ s2 ≠ a1 ∧ s2 ≠ s1) (qa : L a2 = true) (qs : L s2 = false) :
  ∃ w', (Instr.storeAt 45 (V a2) (.agg #[.int .i64 id, .string o, .slice A n c])).run Try.prog w = .ok () w' ∧ ∀ v, TwJ W0 a1 a2 s1 s2 C1 #[.int .i64 id, .string o, .slice A n c] (updV V s2 v) (upd L s2) w' := by
 obtain ⟨w', t1, t2⟩ := h.swap.st1 hn qa qs
 exact ⟨w', t1, fun v => (t2 v).swap⟩
theorem TwJ.fin (h : TwJ W0 a1 a2 s1 s2 C1 C2 V L w) (q1 : L s1 = true) (q2 : L s2 = true) : ∃ n1 n2, V a1 = .pointer (some ⟨n1, 0, none⟩) ∧ V a2 = .pointer (some ⟨n2, 0, none⟩) ∧ CouB w n1 C1 ∧ CouB w n2 C2 := by
 obtain ⟨n1, e1, -, -, -, r1, -⟩ := h.v1 (h.p1 q1)
 obtain ⟨n2, e2, -, -, -, r2, -⟩ := h.v2 (h.p2 q2)
 exact ⟨n1, n2, e1, e2, r1 q1, r2 q2⟩
end
set_option maxRecDepth 100000 in
set_option maxHeartbeats 4000000 in
theorem refSameD_any {P P' : Nat → Prop} (u v : Value) (D : DeskD) (w : World) (hD : DeskR P w u D) (hE : DeskR P' w v D) (sD : DeskS D) :
  Calls Try.prog 20 #[u, v] w (RetB (.bool true) w) := by
 obtain ⟨A, ca, B, cb, rfl, h1, h2⟩ := hD
 obtain ⟨A', ca', B', cb', rfl, h3, h4⟩ := hE
 have H1 := Lib.hid h1
 have H2 := Lib.hid h2
 have H3 := Lib.hid h3
 have H4 := Lib.hid h4
 have HS := Lib.hid sD
 clear h1 h2 h3 h4 sD
 go_enter Try.func20, Try.ntmps20
 go_wp2_with fail
 refine gen_calls fun w1 hw1 => ?_
 have HB := Lib.hid (show Below w.heap.size w w1 from by rw [hw1]; exact bl_alloc _ (below_alloc _ _))
 have HD1 := Lib.hid (show DeskCell w1 w.heap.size (.slice A D.cs.length ca) (.slice B D.ks.length cb) from by rw [hw1]; exact (DeskCell.new _ _ rfl).below (below_alloc _ _))
 have HD2 := Lib.hid (show DeskCell w1 (w.heap.size + 1) (.slice A' D.cs.length ca') (.slice B' D.ks.length cb') from by rw [hw1]; exact DeskCell.new _ _ (by simp))
 clear hw1
 generalize hbx : w.heap.size = bx at *
 have HBX := Lib.hid hbx
 clear hbx
 refine ret_below (sameCases_any B B' D.ks cb cb' w1 (H2.out.below (by rw [HBX.out]; exact HB.out)) (H4.out.below (by rw [HBX.out]; exact HB.out)) (by have := HS.out.lk; omega)) fun w2 hb => ?_
 replace HB := Lib.hid (show Below w.heap.size w w2 from by rw [HBX.out]; exact HB.out.trans (hb.mono (by have := HD1.out.lt; omega)))
 replace HD1 := Lib.hid (HD1.out.below hb)
 replace HD2 := Lib.hid (HD2.out.below hb)
 clear hb
 go_wp2_with fail
 go_loopw [5] (fun i wr => ∃ k : Nat, k ≤ D.cs.length ∧ i = .int .i64 k ∧ Below w2.heap.size w2 wr) (fun i _ => D.cs.length - (intOf i).toNat)
 case atStart => exact ⟨0, Nat.zero_le _, rfl, Below.refl _ _⟩
 case round =>
  obtain ⟨k, hk, rfl, hbr⟩ := hrel
  have HBR := Lib.hid hbr
  have HBW := Lib.hid (below_trans HB.out hbr)
  replace HD1 := Lib.hid (HD1.out.below hbr)
  replace HD2 := Lib.hid (HD2.out.below hbr)
  have d0 := HD1.out.c0
  have l0 := HD1.out.lt
  clear hbr
  by_cases hlt : k < D.cs.length
  ·
   obtain ⟨b, off, x, rfl, hbl, -, c0, c1, c2, hx⟩ := (H1.out.below HBW.out).elem hlt
   obtain ⟨b', off', y, rfl, hbl', -, y0, y1, y2, hy⟩ := (H3.out.below HBW.out).elem hlt
   obtain ⟨xi, xo, xA, xn, xc⟩ := x
   obtain ⟨yi, yo, yA, yn, yc⟩ := y
   have e1 : xi = (cAt D.cs k).id := hx.id
   have e2 : xo = (cAt D.cs k).o := hx.o
   have e3 : xn = (cAt D.cs k).away.length := hx.n
   have e4 : yi = (cAt D.cs k).id := hy.id
   have e5 : yo = (cAt D.cs k).o := hy.o
   have e6 : yn = (cAt D.cs k).away.length := hy.n
   have HX := Lib.hid (show ElP ES P wr xA xc (cAt D.cs k).away from hx.away)
   have HY := Lib.hid (show ElP ES P' wr yA yc (cAt D.cs k).away from hy.away)
   have hal : (cAt D.cs k).away.length ≤ 100000 := by have := (HS.out.co k hlt).2.1; omega
   subst e1 e2 e3 e4 e5 e6
   have hk0 : (0 : Int) ≤ (k : Int) := by omega
   have hkl : (k : Int) < (D.cs.length : Int) := by omega
   have hk9 : (k : Int) ≤ 1000 := by have := HS.out.lc; omega
   have X0 := Lib.hid c0
   have X1 := Lib.hid c1
   have X2 := Lib.hid c2
   have Y0 := Lib.hid y0
   have Y1 := Lib.hid y1
   have Y2 := Lib.hid y2
   have LB := Lib.hid hbl
   have LB2 := Lib.hid hbl'
   clear hx hy c0 c1 c2 y0 y1 y2 hbl hbl'
   generalize cAt D.cs k = d at *
   go_upto_region 6 with fail
   clear d0 l0
   refine wp_region_J2 (GI (R := fun _ _ => True) [Pr.eq (.pointer (some ⟨bx, 0, none⟩)), Pr.eq (.slice (some ⟨b, off, none⟩) D.cs.length ca), Pr.eq (.int .i64 (k : Int)), Pr.eq (.pointer (some ⟨b, off + k * 3, none⟩)), Pr.eq (.agg #[.int .i64 d.id, .string d.o, .slice xA d.away.length xc]), Pr.eq (.pointer (some ⟨bx + 1, 0, none⟩)), Pr.eq (.slice (some ⟨b', off', none⟩) D.cs.length ca'), Pr.eq (.int .i64 (k : Int)), Pr.eq (.pointer (some ⟨b', off' + k * 3, none⟩)), Pr.eq (.agg #[.int .i64 d.id, .string d.o, .slice yA d.away.length yc]), Pr.any, Pr.any, Pr.any, Pr.any] (TwJ wr 10 11 12 13 #[.int .i64 d.id, .string d.o, .slice xA d.away.length xc] #[.int .i64 d.id, .string d.o, .slice yA d.away.length yc])) (by kernel_rfl) (by kernel_rfl) (by kernel_rfl) ?_ ?_ ?_
   case refine_1 => exact fun V => GI.start (TwJ.start V)
   case refine_2 =>
    refine .cons (fun V Ld a W hLi hpre hR hI KK hK => ?_) ?_
    ·
     have o2 := (hR.old 2 (by kernel_rfl)).trans (show _ = Value.pointer (some ⟨bx, 0, none⟩) from rfl)
     exact J_fieldAddr rfl _ (.tmp 2) 0 rfl (by rw [o2]; go_simp) (hK _ _ (hI.put0 0 rfl rfl (hI.st.mv _ (by decide))))
    refine .cons (fun V Ld a W hLi hpre hR hI KK hK => ?_) ?_
    ·
     have f0 := hI.ef hR hpre 0 rfl rfl rfl (by kernel_rfl)
     have c0 := (HD1.out.below hI.st.b).c0
     exact J_load rfl _ (.tmp 30) rfl (by rw [f0]; go_simp) (hK _ _ (hI.put0 1 rfl rfl (hI.st.mv _ (by decide))))
    refine .cons (fun V Ld a W hLi hpre hR hI KK hK => ?_) ?_
    ·
     have o5 := (hR.old 5 (by kernel_rfl)).trans (show _ = Value.int .i64 (k : Int) from rfl)
     exact G_move rfl (.tmp 5) rfl o5 (hK _ _ (hI.put0 2 rfl rfl (hI.st.mv _ (by decide))))
    refine .cons (fun V Ld a W hLi hpre hR hI KK hK => ?_) ?_
    ·
     have f1 := hI.ef hR hpre 1 rfl rfl rfl (by kernel_rfl)
     have f2 := hI.ef hR hpre 2 rfl rfl rfl (by kernel_rfl)
     exact J_indexAddr rfl _ (.tmp 31) (.tmp 32) rfl (by rw [f1, f2]; go_simp <;> (intro h; omega)) (hK _ _ (hI.put0 3 rfl rfl (hI.st.mv _ (by decide))))
    refine .cons (fun V Ld a W hLi hpre hR hI KK hK => ?_) ?_
    ·
     have f3 := hI.ef hR hpre 3 rfl rfl rfl (by kernel_rfl)
     have x0 := (hI.st.b.cell LB.out).trans X0.out
     have x1 := (hI.st.b.cell LB.out).trans X1.out
     have x2 := (hI.st.b.cell LB.out).trans X2.out
     exact J_load rfl _ (.tmp 33) rfl (by rw [f3]; go_simp) (hK _ _ (hI.put0 4 rfl rfl (hI.st.mv _ (by decide))))
    refine .cons (fun V Ld a W hLi hpre hR hI KK hK => ?_) ?_
    ·
     have o3 := (hR.old 3 (by kernel_rfl)).trans (show _ = Value.pointer (some ⟨bx + 1, 0, none⟩) from rfl)
     exact J_fieldAddr rfl _ (.tmp 3) 0 rfl (by rw [o3]; go_simp) (hK _ _ (hI.put0 5 rfl rfl (hI.st.mv _ (by decide))))
    refine .cons (fun V Ld a W hLi hpre hR hI KK hK => ?_) ?_
    ·
     have f5 := hI.ef hR hpre 5 rfl rfl rfl (by kernel_rfl)
     have c0 := (HD2.out.below hI.st.b).c0
     exact J_load rfl _ (.tmp 35) rfl (by rw [f5]; go_simp) (hK _ _ (hI.put0 6 rfl rfl (hI.st.mv _ (by decide))))
    refine .cons (fun V Ld a W hLi hpre hR hI KK hK => ?_) ?_
    ·
     have o5 := (hR.old 5 (by kernel_rfl)).trans (show _ = Value.int .i64 (k : Int) from rfl)
     exact G_move rfl (.tmp 5) rfl o5 (hK _ _ (hI.put0 7 rfl rfl (hI.st.mv _ (by decide))))
    refine .cons (fun V Ld a W hLi hpre hR hI KK hK => ?_) ?_
    ·
     have f6 := hI.ef hR hpre 6 rfl rfl rfl (by kernel_rfl)
     have f7 := hI.ef hR hpre 7 rfl rfl rfl (by kernel_rfl)
     exact J_indexAddr rfl _ (.tmp 36) (.tmp 37) rfl (by rw [f6, f7]; go_simp <;> (intro h; omega)) (hK _ _ (hI.put0 8 rfl rfl (hI.st.mv _ (by decide))))
    refine .cons (fun V Ld a W hLi hpre hR hI KK hK => ?_) ?_
    ·
     have f8 := hI.ef hR hpre 8 rfl rfl rfl (by kernel_rfl)
     have x0 := (hI.st.b.cell LB2.out).trans Y0.out
     have x1 := (hI.st.b.cell LB2.out).trans Y1.out
     have x2 := (hI.st.b.cell LB2.out).trans Y2.out
     exact J_load rfl _ (.tmp 38) rfl (by rw [f8]; go_simp) (hK _ _ (hI.put0 9 rfl rfl (hI.st.mv _ (by decide))))
    refine .cons (fun V Ld a W hLi hpre hR hI KK hK => ?_) ?_
    ·
     exact J_alloc rfl _ rfl (al_cou W) (hK _ _ (hI.put trivial 10 rfl trivial (hI.st.al1 (by decide) hLi)))
    refine .cons (fun V Ld a W hLi hpre hR hI KK hK => ?_) ?_
    ·
     exact J_alloc rfl _ rfl (al_cou W) (hK _ _ (hI.put trivial 11 rfl trivial (hI.st.al2 (by decide) hLi)))
    refine .cons (fun V Ld a W hLi hpre hR hI KK hK => ?_) ?_
    ·
     have p10 := pm hpre 10 (by kernel_rfl)
     have f4 := hI.ef hR hpre 4 rfl rfl rfl (by kernel_rfl)
     obtain ⟨w', hr, hn⟩ := hI.st.st1 (by decide) p10 hLi
     exact J_store rfl _ (.tmp 6) (.tmp 34) rfl (by rw [hR.ev 10 rfl rfl p10, f4]; exact hr) (hK _ _ (hI.put trivial 12 rfl trivial (hn _)))
    refine .cons (fun V Ld a W hLi hpre hR hI KK hK => ?_) trivial
    ·
     have p11 := pm hpre 11 (by kernel_rfl)
     have f9 := hI.ef hR hpre 9 rfl rfl rfl (by kernel_rfl)
     obtain ⟨w', hr, hn⟩ := hI.st.st2 (by decide) p11 hLi
     exact J_store rfl _ (.tmp 7) (.tmp 39) rfl (by rw [hR.ev 11 rfl rfl p11, f9]; exact hr) (hK _ _ (hI.put trivial 13 rfl trivial (hn _)))
   case refine_3 =>
    intro V Ld w9 hLd hI
    obtain ⟨n1, n2, e1, e2, q1, q2⟩ := hI.st.fin (hLd 12 (by decide)) (hLd 13 (by decide))
    have hb9 := hI.st.b
    clear hI hLd
    simp only [finL, putL, Act.put, Nat.reduceAdd]
    rw [e1, e2]
    clear e1 e2
    generalize V 0 = v0, V 1 = v1
    generalize V 2 = v2, V 3 = v3
    generalize V 4 = v4, V 5 = v5
    generalize V 6 = v6, V 7 = v7
    generalize V 8 = v8, V 9 = v9
    clear V
    simp only [List.setIfInBounds_toArray, List.set_cons_succ, List.set_cons_zero]
    have u0 : w9.cell? ⟨n1, 0, none⟩ = some (.int .i64 d.id) := by rw [cell_of_row _ _ 0 _ _ (0, 0) q1]; rfl
    have u1 : w9.cell? ⟨n1, 1, none⟩ = some (.string d.o) := by rw [cell_of_row _ _ 1 _ _ (0, 0) q1]; rfl
    have u2 : w9.cell? ⟨n1, 2, none⟩ = some (.slice xA d.away.length xc) := by rw [cell_of_row _ _ 2 _ _ (0, 0) q1]; rfl
    have t0 : w9.cell? ⟨n2, 0, none⟩ = some (.int .i64 d.id) := by rw [cell_of_row _ _ 0 _ _ (0, 0) q2]; rfl
    have t1 : w9.cell? ⟨n2, 1, none⟩ = some (.string d.o) := by rw [cell_of_row _ _ 1 _ _ (0, 0) q2]; rfl
    have t2 : w9.cell? ⟨n2, 2, none⟩ = some (.slice yA d.away.length yc) := by rw [cell_of_row _ _ 2 _ _ (0, 0) q2]; rfl
    have r1 : (d.id != d.id) = false := by simp
    have r2 : (d.o.toList != d.o.toList) = false := by simp
    have lq1 := blk_ltE q1
    have lq2 := blk_ltE q2
    have HB9 := Lib.hid hb9
    clear q1 q2 hb9
    go_wp2_with fail
    refine ret_below (sameTexts_any xA yA d.away d.away xc yc w9 (HX.out.below HB9.out) (HY.out.below HB9.out) hal) fun w10 hb10 => ?_
    rw [sameT_self]
    have HB10 := Lib.hid (below_trans HBR.out (below_trans HB9.out hb10))
    clear hb10 u0 u1 u2 t0 t1 t2 lq1 lq2
    go_wp2_with fail
    go_roundw
    case rel => exact ⟨k + 1, by omega, by go_num, HB10.out⟩
    case measure => simp [intOf]; omega
  ·
   have hkl : ¬ (k : Int) < (D.cs.length : Int) := by omega
   go_wp2_with fail
   go_ret
   exact RetB.bool rfl HBW.out
set_option maxRecDepth 100000 in
set_option maxHeartbeats 2000000 in
theorem lawSame_any {P P' : Nat → Prop} (u v : Value) (e : Int) (D : DeskD) (w : World) (hD : DeskR P w u D) (hE : DeskR P' w v D) (sD : DeskS D) :
  Calls Try.prog 45 #[u, v, .int .i64 e, .int .i64 e] w (RetB (.bool true) w) := by
 have HD := Lib.hid hD
 have HE := Lib.hid hE
 have HS := Lib.hid sD
 obtain ⟨A, ca, B, cb, rfl, h1, h2⟩ := hD
 obtain ⟨A', ca', B', cb', rfl, h3, h4⟩ := hE
 clear h1 h2 h3 h4 sD
 go_enter Try.func45, Try.ntmps45
 go_wp2_with fail
 refine gen_calls fun w1 hw1 => ?_
 have HB := Lib.hid (show Below w.heap.size w w1 from by rw [hw1]; exact bl_alloc _ (below_alloc _ _))
 have HD1 := Lib.hid (show DeskCell w1 w.heap.size (.slice A D.cs.length ca) (.slice B D.ks.length cb) from by rw [hw1]; exact (DeskCell.new _ _ rfl).below (below_alloc _ _))
 have HD2 := Lib.hid (show DeskCell w1 (w.heap.size + 1) (.slice A' D.cs.length ca') (.slice B' D.ks.length cb') from by rw [hw1]; exact DeskCell.new _ _ (by simp))
 clear hw1
 refine ret_below (refSameD_any _ _ D w1 (HD.out.below HB.out) (HE.out.below HB.out) HS.out) fun w2 hb => ?_
 replace HB := Lib.hid (below_trans HB.out hb)
 have d0 := (HD1.out.below hb).c0
 have d1 := (HD1.out.below hb).c1
 have e0 := (HD2.out.below hb).c0
 have e1 := (HD2.out.below hb).c1
 have l0 := (HD1.out.below hb).lt
 have l1 := (HD2.out.below hb).lt
 clear hb
 go_wp2_with fail
 refine ret_below (sameD_any _ _ D w2 (HD.out.below HB.out) (HE.out.below HB.out) HS.out) fun w3 hb => ?_
 replace HB := Lib.hid (below_trans HB.out hb)
 clear hb d0 d1 e0 e1 l0 l1
 go_wp2_with fail
 go_ret
 exact RetB.bool rfl HB.out
end Go.Proofs.Ytjckpammcgeloaa
namespace Go.Proofs.Ytjckpammcgeloaa
open Go.RowKit

theorem enter_chk (args : Array Value) (w : World) : (callFunc 18 args).run Try.prog w = .ok (.enter 18 args) w :=
 Go.MuLone.run_callFunc_enter Try.func18 (by kernel_rfl) rfl args w
theorem enter_rchk (args : Array Value) (w : World) : (callFunc 19 args).run Try.prog w = .ok (.enter 19 args) w :=
 Go.MuLone.run_callFunc_enter Try.func19 (by kernel_rfl) rfl args w
theorem enter_same (args : Array Value) (w : World) : (callFunc 45 args).run Try.prog w = .ok (.enter 45 args) w :=
 Go.MuLone.run_callFunc_enter Try.func45 (by kernel_rfl) rfl args w
theorem enter_un (args : Array Value) (w : World) : (callFunc 17 args).run Try.prog w = .ok (.enter 17 args) w :=
 Go.MuLone.run_callFunc_enter Try.func17 (by kernel_rfl) rfl args w
theorem enter_sc (args : Array Value) (w : World) : (callFunc 40 args).run Try.prog w = .ok (.enter 40 args) w :=
 Go.MuLone.run_callFunc_enter Try.func40 (by kernel_rfl) rfl args w
def elsP (L : List CaseD) : Pr Bl := ⟨fun v w => ∃ A c, v = .slice A L.length c ∧ ElP EK (fun _ => True) w A c L, fun _ _ _ ⟨A, c, e, h⟩ hb => ⟨A, c, e, h.below hb⟩⟩
theorem elsP_of {w : World} {base : Nat} {v : Value} {L : List CaseD} (h : ElOwn EK 37 w base v L) : (elsP L).p v w := by
 obtain ⟨A, c, e, h⟩ := h.toP
 exact ⟨A, c, e, h.mono fun _ _ _ => trivial⟩
theorem ld_case {w : World} {x : Nat} {d : CaseD} (h : CaseC w x d) : (Instr.loadAt 37 (.pointer (some ⟨x, 0, none⟩))).run Try.prog w = .ok (caseV d) w := by
 have h0 := h.c0
 have h1 := h.c1
 have h2 := h.c2
 have h3 := h.c3
 have h4 := h.c4
 go_simp
theorem giveD_small {D : DeskD} (h : DeskS D) (hk : D.ks.length ≤ 900) (r o : ByteArray) (t : Int) (hr : r.size ≤ maxLen) (ho : o.size ≤ maxLen) : DeskS (giveD D r o t) := by
 unfold giveD
 split
 ·
  refine ⟨h.lc, by simp; omega, h.co, fun k hk => ?_⟩
  simp only [List.length_append, List.length_singleton] at hk
  by_cases e : k < D.ks.length
  ·
   show (kAt (_ ++ _) k).r.size ≤ _ ∧ _
   rw [kAt_app1 e]; exact h.ca k e
  ·
   show (kAt (_ ++ _) k).r.size ≤ _ ∧ (kAt (_ ++ _) k).o.size ≤ _
   rw [kAt_app2 (by omega)]; exact ⟨hr, ho⟩
 ·
  exact h
theorem small_nil : DeskS ⟨[], []⟩ := ⟨by simp, by simp, fun k hk => absurd hk (by simp), fun k hk => absurd hk (by simp)⟩
theorem ackD_small {D : DeskD} (h : DeskS D) (id : Int) : DeskS (ackD D id) := by
 unfold ackD
 split
 ·
  refine ⟨h.lc, by simpa using h.lk, h.co, fun k hk => ?_⟩
  have hk : k < D.ks.length := by simpa using hk
  show (kAt (D.ks.set _ _) k).r.size ≤ _ ∧ (kAt (D.ks.set _ _) k).o.size ≤ _
  have hk2 := kAt_get (K := D.ks.set (unI D id).toNat (seenK (kAt D.ks (unI D id).toNat))) (k := k) (by simpa using hk)
  by_cases e : (unI D id).toNat = k
  ·
   rw [e] at hk2 ⊢
   rw [List.getElem?_set_self hk] at hk2
   injection hk2 with hk2
   rw [← hk2]; exact h.ca k hk
  ·
   rw [List.getElem?_set_ne e, kAt_get hk] at hk2
   injection hk2 with hk2
   rw [← hk2]; exact h.ca k hk
 ·
  exact small_nil
theorem lvD_small : ∀ (l : List CaseD) (O : DeskD), DeskS O → (∀ x ∈ l, x.r.size ≤ maxLen ∧ x.o.size ≤ maxLen) → O.ks.length + l.length ≤ 900 → DeskS (lvD l O)
 | [], O, h, _, _ => h
 | x :: l, O, h, hl, hn => by
  have h1 := hl x (List.mem_cons_self ..)
  refine lvD_small l _ (giveD_small h (by simp at hn; omega) _ _ _ h1.1 h1.2) (fun y hy => hl y (List.mem_cons_of_mem _ hy)) ?_
  have : (giveD O x.r x.o (lvT O x)).ks.length ≤ O.ks.length + 1 := by unfold giveD; split <;> simp
  simp at hn; omega
theorem leaveD_small {D : DeskD} (h : DeskS D) (id : Int) : DeskS (leaveD D id) := by
 unfold leaveD
 split
 ·
  rename_i he
  obtain ⟨hv, hf⟩ := leave_pos he
  have p := (leave_parts D.ks id).1
  have hlk := hv.lk
  refine lvD_small _ _ ((LvI.start h).small h (by omega)) (fun x hx => ?_) (by show (D.ks.filter _).length + _ ≤ _; omega)
  obtain ⟨i, hi, e⟩ := kAt_of (List.mem_filter.1 hx).1
  rw [← e]; exact h.ca i hi
 ·
  exact h
set_option maxRecDepth 100000 in
set_option maxHeartbeats 4000000 in
theorem agree_any {P : Nat → Prop} (v : Value) (r o : ByteArray) (t id : Int) (D : DeskD) (w : World) (hD : DeskR P w v D) (sD : DeskS D) (hk : D.ks.length ≤ 800) (hr : r.size ≤ maxLen) (ho : o.size ≤ maxLen) :
  Calls Try.prog 21 #[v, .string r, .string o, .int .i64 t, .int .i64 id] w (RetB (.bool true) w) := by
 have HD := Lib.hid hD
 have HS := Lib.hid sD
 have HR := Lib.hid hr
 have SG := Lib.hid (giveD_small sD (by omega) r o t hr ho)
 have SA := Lib.hid (ackD_small sD id)
 have SL := Lib.hid (leaveD_small sD id)
 have HUL := Lib.hid (show (unseenL D.ks id).length ≤ 100000 from Nat.le_trans (List.length_filter_le _ _) (by omega))
 have HKL := Lib.hid (show D.ks.length ≤ 10000 by omega)
 obtain ⟨A, ca, B, cb, rfl, h1, h2⟩ := hD
 clear h1 h2 sD hk hr ho
 go_enter Try.func21, Try.ntmps21
 go_wp2_with fail
 refine gen_calls fun w1 hw1 => ?_
 have HB := Lib.hid (show Below w.heap.size w w1 from by rw [hw1]; exact below_alloc _ _)
 have C0 := Lib.hid (show DeskCell w1 w.heap.size (.slice A D.cs.length ca) (.slice B D.ks.length cb) from by rw [hw1]; exact DeskCell.new _ _ rfl)
 clear hw1
 generalize hbx : w.heap.size = bx at *
 have HBX := Lib.hid hbx
 clear hbx
 replace HB := Lib.hid (show Below w.heap.size w w1 from by rw [HBX.out]; exact HB.out)
 generalize hge : giveE D r o t = ge at *
 generalize hgi : giveI D r o t = gi at *
 generalize hae : ackE D id = ae at *
 generalize hle : leaveE D id = le at *
 generalize hkx : ackK D id = kx at *
 have GE := Lib.hid hge
 have HGI := Lib.hid hgi
 have AE := Lib.hid hae
 have LE := Lib.hid hle
 have KX := Lib.hid hkx
 clear hge hgi hae hle hkx
 refine (give_any _ r o t D w1 (HD.out.below HB.out) HS.out HR.out).mono ?_
 rintro e v1 ⟨u1, x1, rfl, ho, hb⟩
 rw [HGI.out, GE.out]
 replace HB := Lib.hid (below_trans HB.out hb)
 replace C0 := Lib.hid (C0.out.below hb)
 obtain ⟨A1, ca1, B1, cb1, eu, ex⟩ := ho.forms
 have O1 := Lib.hid ho
 have EU1 := Lib.hid eu
 have EX1 := Lib.hid ex
 subst eu ex
 clear ho hb
 have c0 := C0.out.c0
 have c1 := C0.out.c1
 have l0 := C0.out.lt
 go_wp2_with fail
 refine gen_calls fun w2 hw => ?_
 have hb : Below v1.heap.size v1 w2 := by rw [hw]; exact below_alloc _ _
 have C1 := Lib.hid (show DeskCell w2 v1.heap.size (.slice A1 (giveD D r o t).cs.length ca1) (.slice B1 (giveD D r o t).ks.length cb1) from by rw [hw]; exact DeskCell.new _ _ rfl)
 replace HB := Lib.hid (below_trans HB.out hb)
 replace C0 := Lib.hid (C0.out.below hb)
 replace O1 := Lib.hid (O1.out.below hb)
 clear hw hb c0 c1 l0
 generalize v1.heap.size = n1 at *
 refine (refGive_any _ r o t D w2 (HD.out.below HB.out) HS.out).mono ?_
 rintro e v2 ⟨u2, x2, rfl, ho, hb⟩
 rw [HGI.out, GE.out]
 replace HB := Lib.hid (below_trans HB.out hb)
 replace C0 := Lib.hid (C0.out.below hb)
 replace C1 := Lib.hid (C1.out.below hb)
 replace O1 := Lib.hid (O1.out.below hb)
 obtain ⟨A2, ca2, B2, cb2, eu, ex⟩ := ho.forms
 have O2 := Lib.hid ho
 have EU2 := Lib.hid eu
 have EX2 := Lib.hid ex
 subst eu ex
 clear ho hb
 have c0 := C0.out.c0
 have c1 := C0.out.c1
 have l0 := C0.out.lt
 go_wp2_with fail
 refine gen_calls fun w3 hw => ?_
 have hb : Below v2.heap.size v2 w3 := by rw [hw]; exact below_alloc _ _
 have C2 := Lib.hid (show DeskCell w3 v2.heap.size (.slice A2 (giveD D r o t).cs.length ca2) (.slice B2 (giveD D r o t).ks.length cb2) from by rw [hw]; exact DeskCell.new _ _ rfl)
 replace HB := Lib.hid (below_trans HB.out hb)
 replace C0 := Lib.hid (C0.out.below hb)
 replace C1 := Lib.hid (C1.out.below hb)
 replace O1 := Lib.hid (O1.out.below hb)
 replace O2 := Lib.hid (O2.out.below hb)
 clear hw hb c0 c1 l0
 generalize v2.heap.size = n2 at *
 refine (ack_any _ id D w3 (HD.out.below HB.out) HS.out).mono ?_
 rintro e v3 ⟨u3, x3, rfl, ho, hb⟩
 rw [KX.out, AE.out]
 replace HB := Lib.hid (below_trans HB.out hb)
 replace C0 := Lib.hid (C0.out.below hb)
 replace C1 := Lib.hid (C1.out.below hb)
 replace C2 := Lib.hid (C2.out.below hb)
 replace O1 := Lib.hid (O1.out.below hb)
 replace O2 := Lib.hid (O2.out.below hb)
 obtain ⟨A3, ca3, B3, cb3, eu, ex⟩ := ho.forms
 have O3 := Lib.hid ho
 have EU3 := Lib.hid eu
 have EX3 := Lib.hid ex
 subst eu ex
 clear ho hb
 have c0 := C0.out.c0
 have c1 := C0.out.c1
 have l0 := C0.out.lt
 go_wp2_with fail
 refine gen_calls fun w4 hw => ?_
 have hb : Below v3.heap.size v3 w4 := by rw [hw]; exact bl_alloc _ (below_alloc _ _)
 have C3 := Lib.hid (show DeskCell w4 v3.heap.size (.slice A3 (ackD D id).cs.length ca3) (.slice B3 (ackD D id).ks.length cb3) from by rw [hw]; exact (DeskCell.new _ _ rfl).below (below_alloc _ _))
 have K3 := Lib.hid (show CaseC w4 (v3.heap.size + 1) kx from by rw [hw]; exact CaseC.new kx (by simp))
 replace HB := Lib.hid (below_trans HB.out hb)
 replace C0 := Lib.hid (C0.out.below hb)
 replace C1 := Lib.hid (C1.out.below hb)
 replace C2 := Lib.hid (C2.out.below hb)
 replace O1 := Lib.hid (O1.out.below hb)
 replace O2 := Lib.hid (O2.out.below hb)
 replace O3 := Lib.hid (O3.out.below hb)
 clear hw hb c0 c1 l0
 generalize v3.heap.size = n3 at *
 generalize n3 + 1 = k3 at *
 refine (refAck_any _ id D w4 (HD.out.below HB.out) HS.out).mono ?_
 rintro e v4 ⟨u4, x4, rfl, ho, hb⟩
 rw [KX.out, AE.out]
 replace HB := Lib.hid (below_trans HB.out hb)
 replace C0 := Lib.hid (C0.out.below hb)
 replace C1 := Lib.hid (C1.out.below hb)
 replace C2 := Lib.hid (C2.out.below hb)
 replace C3 := Lib.hid (C3.out.below hb)
 replace O1 := Lib.hid (O1.out.below hb)
 replace O2 := Lib.hid (O2.out.below hb)
 replace O3 := Lib.hid (O3.out.below hb)
 replace K3 := Lib.hid (K3.out.below hb)
 obtain ⟨A4, ca4, B4, cb4, eu, ex⟩ := ho.forms
 have O4 := Lib.hid ho
 have EU4 := Lib.hid eu
 have EX4 := Lib.hid ex
 subst eu ex
 clear ho hb
 have c0 := C0.out.c0
 have c1 := C0.out.c1
 have l0 := C0.out.lt
 go_wp2_with fail
 refine gen_calls fun w5 hw => ?_
 have hb : Below v4.heap.size v4 w5 := by rw [hw]; exact bl_alloc _ (below_alloc _ _)
 have C4 := Lib.hid (show DeskCell w5 v4.heap.size (.slice A4 (ackD D id).cs.length ca4) (.slice B4 (ackD D id).ks.length cb4) from by rw [hw]; exact (DeskCell.new _ _ rfl).below (below_alloc _ _))
 have K4 := Lib.hid (show CaseC w5 (v4.heap.size + 1) kx from by rw [hw]; exact CaseC.new kx (by simp))
 replace HB := Lib.hid (below_trans HB.out hb)
 replace C0 := Lib.hid (C0.out.below hb)
 replace C1 := Lib.hid (C1.out.below hb)
 replace C2 := Lib.hid (C2.out.below hb)
 replace C3 := Lib.hid (C3.out.below hb)
 replace O1 := Lib.hid (O1.out.below hb)
 replace O2 := Lib.hid (O2.out.below hb)
 replace O3 := Lib.hid (O3.out.below hb)
 replace O4 := Lib.hid (O4.out.below hb)
 replace K3 := Lib.hid (K3.out.below hb)
 clear hw hb c0 c1 l0
 generalize v4.heap.size = n4 at *
 generalize n4 + 1 = k4 at *
 refine (leave_any _ id D w5 (HD.out.below HB.out) HS.out).mono ?_
 rintro e v5 ⟨u5, x5, rfl, ho, hb⟩
 rw [LE.out]
 replace HB := Lib.hid (below_trans HB.out hb)
 replace C0 := Lib.hid (C0.out.below hb)
 replace C1 := Lib.hid (C1.out.below hb)
 replace C2 := Lib.hid (C2.out.below hb)
 replace C3 := Lib.hid (C3.out.below hb)
 replace C4 := Lib.hid (C4.out.below hb)
 replace O1 := Lib.hid (O1.out.below hb)
 replace O2 := Lib.hid (O2.out.below hb)
 replace O3 := Lib.hid (O3.out.below hb)
 replace O4 := Lib.hid (O4.out.below hb)
 replace K3 := Lib.hid (K3.out.below hb)
 replace K4 := Lib.hid (K4.out.below hb)
 obtain ⟨A5, ca5, B5, cb5, eu, ex⟩ := ho.forms
 have O5 := Lib.hid ho
 have EU5 := Lib.hid eu
 have EX5 := Lib.hid ex
 subst eu ex
 clear ho hb
 have c0 := C0.out.c0
 have c1 := C0.out.c1
 have l0 := C0.out.lt
 go_wp2_with fail
 refine gen_calls fun w6 hw => ?_
 have hb : Below v5.heap.size v5 w6 := by rw [hw]; exact below_alloc _ _
 have C5 := Lib.hid (show DeskCell w6 v5.heap.size (.slice A5 (leaveD D id).cs.length ca5) (.slice B5 (leaveD D id).ks.length cb5) from by rw [hw]; exact DeskCell.new _ _ rfl)
 replace HB := Lib.hid (below_trans HB.out hb)
 replace C0 := Lib.hid (C0.out.below hb)
 replace C1 := Lib.hid (C1.out.below hb)
 replace C2 := Lib.hid (C2.out.below hb)
 replace C3 := Lib.hid (C3.out.below hb)
 replace C4 := Lib.hid (C4.out.below hb)
 replace O1 := Lib.hid (O1.out.below hb)
 replace O2 := Lib.hid (O2.out.below hb)
 replace O3 := Lib.hid (O3.out.below hb)
 replace O4 := Lib.hid (O4.out.below hb)
 replace O5 := Lib.hid (O5.out.below hb)
 replace K3 := Lib.hid (K3.out.below hb)
 replace K4 := Lib.hid (K4.out.below hb)
 clear hw hb c0 c1 l0
 generalize v5.heap.size = n5 at *
 refine (refLeave_any _ id D w6 (HD.out.below HB.out) HS.out).mono ?_
 rintro e v6 ⟨u6, x6, rfl, ho, hb⟩
 rw [LE.out]
 replace HB := Lib.hid (below_trans HB.out hb)
 replace C0 := Lib.hid (C0.out.below hb)
 replace C1 := Lib.hid (C1.out.below hb)
 replace C2 := Lib.hid (C2.out.below hb)
 replace C3 := Lib.hid (C3.out.below hb)
 replace C4 := Lib.hid (C4.out.below hb)
 replace C5 := Lib.hid (C5.out.below hb)
 replace O1 := Lib.hid (O1.out.below hb)
 replace O2 := Lib.hid (O2.out.below hb)
 replace O3 := Lib.hid (O3.out.below hb)
 replace O4 := Lib.hid (O4.out.below hb)
 replace O5 := Lib.hid (O5.out.below hb)
 replace K3 := Lib.hid (K3.out.below hb)
 replace K4 := Lib.hid (K4.out.below hb)
 obtain ⟨A6, ca6, B6, cb6, eu, ex⟩ := ho.forms
 have O6 := Lib.hid ho
 have EU6 := Lib.hid eu
 have EX6 := Lib.hid ex
 subst eu ex
 clear ho hb
 have c0 := C0.out.c0
 have c1 := C0.out.c1
 have l0 := C0.out.lt
 go_upto_region 7 with fail
 refine gen_world fun w7 hw => ?_
 have hb : Below v6.heap.size v6 w7 := by rw [hw]; exact below_alloc _ _
 have C6 := Lib.hid (show DeskCell w7 v6.heap.size (.slice A6 (leaveD D id).cs.length ca6) (.slice B6 (leaveD D id).ks.length cb6) from by rw [hw]; exact DeskCell.new _ _ rfl)
 replace HB := Lib.hid (below_trans HB.out hb)
 replace C0 := Lib.hid (C0.out.below hb)
 replace C1 := Lib.hid (C1.out.below hb)
 replace C2 := Lib.hid (C2.out.below hb)
 replace C3 := Lib.hid (C3.out.below hb)
 replace C4 := Lib.hid (C4.out.below hb)
 replace C5 := Lib.hid (C5.out.below hb)
 replace O1 := Lib.hid (O1.out.below hb)
 replace O2 := Lib.hid (O2.out.below hb)
 replace O3 := Lib.hid (O3.out.below hb)
 replace O4 := Lib.hid (O4.out.below hb)
 replace O5 := Lib.hid (O5.out.below hb)
 replace O6 := Lib.hid (O6.out.below hb)
 replace K3 := Lib.hid (K3.out.below hb)
 replace K4 := Lib.hid (K4.out.below hb)
 clear hw hb c0 c1 l0
 generalize v6.heap.size = n6 at *
 have HD0 := Lib.hid (HD.out.below HB.out)
 generalize hu1 : Value.slice A1 (giveD D r o t).cs.length ca1 = u1 at *
 generalize hx1 : Value.slice B1 (giveD D r o t).ks.length cb1 = x1 at *
 generalize hu2 : Value.slice A2 (giveD D r o t).cs.length ca2 = u2 at *
 generalize hx2 : Value.slice B2 (giveD D r o t).ks.length cb2 = x2 at *
 generalize hu3 : Value.slice A3 (ackD D id).cs.length ca3 = u3 at *
 generalize hx3 : Value.slice B3 (ackD D id).ks.length cb3 = x3 at *
 generalize hu4 : Value.slice A4 (ackD D id).cs.length ca4 = u4 at *
 generalize hx4 : Value.slice B4 (ackD D id).ks.length cb4 = x4 at *
 generalize hu5 : Value.slice A5 (leaveD D id).cs.length ca5 = u5 at *
 generalize hx5 : Value.slice B5 (leaveD D id).ks.length cb5 = x5 at *
 generalize hu6 : Value.slice A6 (leaveD D id).cs.length ca6 = u6 at *
 generalize hx6 : Value.slice B6 (leaveD D id).ks.length cb6 = x6 at *
 clear hu1 hx1 hu2 hx2 hu3 hx3 hu4 hx4 hu5 hx5 hu6 hx6
 refine wp_region_J2 (GI (R := Bl) [Pr.eq (.agg #[.slice A D.cs.length ca, .slice B D.ks.length cb]), Pr.eq (.int .i64 (chkE D)), Pr.eq (.agg #[.slice A D.cs.length ca, .slice B D.ks.length cb]), Pr.eq (.int .i64 (chkE D)), Pr.eq (.bool true), Pr.eq (.bool true), Pr.eq (.agg #[u1, x1]), Pr.eq (.agg #[u2, x2]), Pr.eq (.int .i64 ge), Pr.eq (.int .i64 ge), Pr.eq (.bool true), Pr.eq (.bool true), Pr.eq (.bool true), Pr.eq (.int .i64 gi), Pr.eq (.int .i64 gi), Pr.eq (.bool true), Pr.eq (.bool true), Pr.eq (.bool true), Pr.eq (.agg #[u3, x3]), Pr.eq (.agg #[u4, x4]), Pr.eq (.int .i64 ae), Pr.eq (.int .i64 ae), Pr.eq (.bool true), Pr.eq (.bool true), Pr.eq (.bool true), Pr.eq (caseV kx), Pr.eq (caseV kx), Pr.eq (.bool true), Pr.eq (.bool true), Pr.eq (.bool true), Pr.eq (.agg #[u5, x5]), Pr.eq (.agg #[u6, x6]), Pr.eq (.int .i64 le), Pr.eq (.int .i64 le), Pr.eq (.bool true), Pr.eq (.bool true), Pr.eq (.bool true), Pr.eq (.agg #[.slice A D.cs.length ca, .slice B D.ks.length cb]), Pr.eq (.int .i64 id), elsP (unseenL D.ks id), Pr.eq (.agg #[.slice A D.cs.length ca, .slice B D.ks.length cb]), Pr.eq (.int .i64 id), elsP (unseenL D.ks id), Pr.eq (.bool true), Pr.eq (.bool true), Pr.eq (.bool true)] (GrS w7)) (by kernel_rfl) (by kernel_rfl) (by kernel_rfl) ?_ ?_ ?_
 case refine_1 => exact fun V => GI.start (GrS.start _ _ _)
 case refine_2 =>
  refine .cons (fun V Ld a W hLi hpre hR hI KK hK => ?_) ?_
  ·
   have o5 := (hR.old 5 (by kernel_rfl)).trans (show _ = Value.pointer (some ⟨bx, 0, none⟩) from rfl)
   exact J_load rfl _ (.tmp 5) rfl (by rw [o5]; exact ld_desk (C0.out.below hI.st.bl)) (hI.u0 hK rfl)
  refine .cons (fun V Ld a W hLi hpre hR hI KK hK => ?_) ?_
  ·
   have f0 := hI.ef hR hpre 0 rfl rfl rfl (by kernel_rfl)
   refine J_call rfl _ _ _ rfl enter_chk (by simp only [List.map_toArray, List.map_cons, List.map_nil, f0]) (check_any _ D W (HD0.out.below hI.st.bl) HS.out) ?_
   rintro e w' ⟨rfl, hb⟩
   exact ⟨_, rfl, hK _ _ (hI.put (R := Bl) hb 1 rfl rfl (hI.st.to hb))⟩
  refine .cons (fun V Ld a W hLi hpre hR hI KK hK => ?_) ?_
  ·
   have o5 := (hR.old 5 (by kernel_rfl)).trans (show _ = Value.pointer (some ⟨bx, 0, none⟩) from rfl)
   exact J_load rfl _ (.tmp 5) rfl (by rw [o5]; exact ld_desk (C0.out.below hI.st.bl)) (hI.u0 hK rfl)
  refine .cons (fun V Ld a W hLi hpre hR hI KK hK => ?_) ?_
  ·
   have f2 := hI.ef hR hpre 2 rfl rfl rfl (by kernel_rfl)
   refine J_call rfl _ _ _ rfl enter_rchk (by simp only [List.map_toArray, List.map_cons, List.map_nil, f2]) (refCheck_any _ D W (HD0.out.below hI.st.bl) HS.out) ?_
   rintro e w' ⟨rfl, hb⟩
   exact ⟨_, rfl, hK _ _ (hI.put (R := Bl) hb 3 rfl rfl (hI.st.to hb))⟩
  refine .cons (fun V Ld a W hLi hpre hR hI KK hK => ?_) ?_
  ·
   have f1 := hI.ef hR hpre 1 rfl rfl rfl (by kernel_rfl)
   have f3 := hI.ef hR hpre 3 rfl rfl rfl (by kernel_rfl)
   exact J_binOp rfl .eql _ (.tmp 72) (.tmp 74) _ rfl (by rw [f1, f3]; go_simp) (hI.u0 hK rfl)
  refine .mf 4 rfl rfl rfl rfl rfl (by kernel_rfl) rfl ?_
  refine .cons (fun V Ld a W hLi hpre hR hI KK hK => ?_) ?_
  ·
   refine G_gw hI hR hpre 5 rfl rfl rfl rfl (by kernel_rfl) ?_
   have o11 := (hR.old 11 (by kernel_rfl)).trans (show _ = Value.pointer (some ⟨n1, 0, none⟩) from rfl)
   exact J_load rfl _ (.tmp 11) rfl (by rw [o11]; exact ld_desk (C1.out.below hI.st.bl)) (hI.u0 hK rfl)
  refine .cons (fun V Ld a W hLi hpre hR hI KK hK => ?_) ?_
  ·
   refine G_gw hI hR hpre 5 rfl rfl rfl rfl (by kernel_rfl) ?_
   have o14 := (hR.old 14 (by kernel_rfl)).trans (show _ = Value.pointer (some ⟨n2, 0, none⟩) from rfl)
   exact J_load rfl _ (.tmp 14) rfl (by rw [o14]; exact ld_desk (C2.out.below hI.st.bl)) (hI.u0 hK rfl)
  refine .cons (fun V Ld a W hLi hpre hR hI KK hK => ?_) ?_
  ·
   refine G_gw hI hR hpre 5 rfl rfl rfl rfl (by kernel_rfl) ?_
   have o13 := (hR.old 13 (by kernel_rfl)).trans (show _ = Value.int .i64 ge from rfl)
   exact G_move rfl (.tmp 13) rfl o13 (hI.u0 hK rfl)
  refine .cons (fun V Ld a W hLi hpre hR hI KK hK => ?_) ?_
  ·
   refine G_gw hI hR hpre 5 rfl rfl rfl rfl (by kernel_rfl) ?_
   have o16 := (hR.old 16 (by kernel_rfl)).trans (show _ = Value.int .i64 ge from rfl)
   exact G_move rfl (.tmp 16) rfl o16 (hI.u0 hK rfl)
  refine .cons (fun V Ld a W hLi hpre hR hI KK hK => ?_) ?_
  ·
   refine G_gw hI hR hpre 5 rfl rfl rfl rfl (by kernel_rfl) ?_
   have f6 := hI.ef hR hpre 6 rfl rfl rfl (by kernel_rfl)
   have f7 := hI.ef hR hpre 7 rfl rfl rfl (by kernel_rfl)
   have f8 := hI.ef hR hpre 8 rfl rfl rfl (by kernel_rfl)
   have f9 := hI.ef hR hpre 9 rfl rfl rfl (by kernel_rfl)
   refine J_call rfl _ _ _ rfl enter_same (by simp only [List.map_toArray, List.map_cons, List.map_nil, f6, f7, f8, f9]) (lawSame_any _ _ ge _ W (O1.out.below hI.st.bl).read (O2.out.below hI.st.bl).read SG.out) ?_
   rintro e w' ⟨rfl, hb⟩
   exact ⟨_, rfl, hK _ _ (hI.put (R := Bl) hb 10 rfl rfl (hI.st.to hb))⟩
  refine .cons (fun V Ld a W hLi hpre hR hI KK hK => ?_) ?_
  ·
   have f5 := hI.ef hR hpre 5 rfl rfl rfl (by kernel_rfl)
   have f10 := hI.ef hR hpre 10 rfl rfl rfl (by kernel_rfl)
   exact G_pick rfl (.tmp 76) (.tmp 81) (.const (.bool false)) rfl f5 (show _ = _ from f10) (hI.u0 hK rfl)
  refine .mf 11 rfl rfl rfl rfl rfl (by kernel_rfl) rfl ?_
  refine .cons (fun V Ld a W hLi hpre hR hI KK hK => ?_) ?_
  ·
   refine G_gw hI hR hpre 12 rfl rfl rfl rfl (by kernel_rfl) ?_
   have o12 := (hR.old 12 (by kernel_rfl)).trans (show _ = Value.int .i64 gi from rfl)
   exact G_move rfl (.tmp 12) rfl o12 (hI.u0 hK rfl)
  refine .cons (fun V Ld a W hLi hpre hR hI KK hK => ?_) ?_
  ·
   refine G_gw hI hR hpre 12 rfl rfl rfl rfl (by kernel_rfl) ?_
   have o15 := (hR.old 15 (by kernel_rfl)).trans (show _ = Value.int .i64 gi from rfl)
   exact G_move rfl (.tmp 15) rfl o15 (hI.u0 hK rfl)
  refine .cons (fun V Ld a W hLi hpre hR hI KK hK => ?_) ?_
  ·
   refine G_gw hI hR hpre 12 rfl rfl rfl rfl (by kernel_rfl) ?_
   have f13 := hI.ef hR hpre 13 rfl rfl rfl (by kernel_rfl)
   have f14 := hI.ef hR hpre 14 rfl rfl rfl (by kernel_rfl)
   exact J_binOp rfl .eql _ (.tmp 84) (.tmp 85) _ rfl (by rw [f13, f14]; go_simp) (hI.u0 hK rfl)
  refine .cons (fun V Ld a W hLi hpre hR hI KK hK => ?_) ?_
  ·
   have f12 := hI.ef hR hpre 12 rfl rfl rfl (by kernel_rfl)
   have f15 := hI.ef hR hpre 15 rfl rfl rfl (by kernel_rfl)
   exact G_pick rfl (.tmp 83) (.tmp 86) (.const (.bool false)) rfl f12 (show _ = _ from f15) (hI.u0 hK rfl)
  refine .mf 16 rfl rfl rfl rfl rfl (by kernel_rfl) rfl ?_
  refine .cons (fun V Ld a W hLi hpre hR hI KK hK => ?_) ?_
  ·
   refine G_gw hI hR hpre 17 rfl rfl rfl rfl (by kernel_rfl) ?_
   have o17 := (hR.old 17 (by kernel_rfl)).trans (show _ = Value.pointer (some ⟨n3, 0, none⟩) from rfl)
   exact J_load rfl _ (.tmp 17) rfl (by rw [o17]; exact ld_desk (C3.out.below hI.st.bl)) (hI.u0 hK rfl)
  refine .cons (fun V Ld a W hLi hpre hR hI KK hK => ?_) ?_
  ·
   refine G_gw hI hR hpre 17 rfl rfl rfl rfl (by kernel_rfl) ?_
   have o20 := (hR.old 20 (by kernel_rfl)).trans (show _ = Value.pointer (some ⟨n4, 0, none⟩) from rfl)
   exact J_load rfl _ (.tmp 20) rfl (by rw [o20]; exact ld_desk (C4.out.below hI.st.bl)) (hI.u0 hK rfl)
  refine .cons (fun V Ld a W hLi hpre hR hI KK hK => ?_) ?_
  ·
   refine G_gw hI hR hpre 17 rfl rfl rfl rfl (by kernel_rfl) ?_
   have o19 := (hR.old 19 (by kernel_rfl)).trans (show _ = Value.int .i64 ae from rfl)
   exact G_move rfl (.tmp 19) rfl o19 (hI.u0 hK rfl)
  refine .cons (fun V Ld a W hLi hpre hR hI KK hK => ?_) ?_
  ·
   refine G_gw hI hR hpre 17 rfl rfl rfl rfl (by kernel_rfl) ?_
   have o22 := (hR.old 22 (by kernel_rfl)).trans (show _ = Value.int .i64 ae from rfl)
   exact G_move rfl (.tmp 22) rfl o22 (hI.u0 hK rfl)
  refine .cons (fun V Ld a W hLi hpre hR hI KK hK => ?_) ?_
  ·
   refine G_gw hI hR hpre 17 rfl rfl rfl rfl (by kernel_rfl) ?_
   have f18 := hI.ef hR hpre 18 rfl rfl rfl (by kernel_rfl)
   have f19 := hI.ef hR hpre 19 rfl rfl rfl (by kernel_rfl)
   have f20 := hI.ef hR hpre 20 rfl rfl rfl (by kernel_rfl)
   have f21 := hI.ef hR hpre 21 rfl rfl rfl (by kernel_rfl)
   refine J_call rfl _ _ _ rfl enter_same (by simp only [List.map_toArray, List.map_cons, List.map_nil, f18, f19, f20, f21]) (lawSame_any _ _ ae _ W (O3.out.below hI.st.bl).read (O4.out.below hI.st.bl).read SA.out) ?_
   rintro e w' ⟨rfl, hb⟩
   exact ⟨_, rfl, hK _ _ (hI.put (R := Bl) hb 22 rfl rfl (hI.st.to hb))⟩
  refine .cons (fun V Ld a W hLi hpre hR hI KK hK => ?_) ?_
  ·
   have f17 := hI.ef hR hpre 17 rfl rfl rfl (by kernel_rfl)
   have f22 := hI.ef hR hpre 22 rfl rfl rfl (by kernel_rfl)
   exact G_pick rfl (.tmp 88) (.tmp 93) (.const (.bool false)) rfl f17 (show _ = _ from f22) (hI.u0 hK rfl)
  refine .mf 23 rfl rfl rfl rfl rfl (by kernel_rfl) rfl ?_
  refine .cons (fun V Ld a W hLi hpre hR hI KK hK => ?_) ?_
  ·
   refine G_gw hI hR hpre 24 rfl rfl rfl rfl (by kernel_rfl) ?_
   have o18 := (hR.old 18 (by kernel_rfl)).trans (show _ = Value.pointer (some ⟨k3, 0, none⟩) from rfl)
   exact J_load rfl _ (.tmp 18) rfl (by rw [o18]; exact ld_case (K3.out.below hI.st.bl)) (hI.u0 hK rfl)
  refine .cons (fun V Ld a W hLi hpre hR hI KK hK => ?_) ?_
  ·
   refine G_gw hI hR hpre 24 rfl rfl rfl rfl (by kernel_rfl) ?_
   have o21 := (hR.old 21 (by kernel_rfl)).trans (show _ = Value.pointer (some ⟨k4, 0, none⟩) from rfl)
   exact J_load rfl _ (.tmp 21) rfl (by rw [o21]; exact ld_case (K4.out.below hI.st.bl)) (hI.u0 hK rfl)
  refine .cons (fun V Ld a W hLi hpre hR hI KK hK => ?_) ?_
  ·
   refine G_gw hI hR hpre 24 rfl rfl rfl rfl (by kernel_rfl) ?_
   have f25 := hI.ef hR hpre 25 rfl rfl rfl (by kernel_rfl)
   have f26 := hI.ef hR hpre 26 rfl rfl rfl (by kernel_rfl)
   exact J_binOp rfl .eql _ (.tmp 96) (.tmp 97) _ rfl (by rw [f25, f26]; exact eq_case _ _ kx W) (hI.u0 hK rfl)
  refine .cons (fun V Ld a W hLi hpre hR hI KK hK => ?_) ?_
  ·
   have f24 := hI.ef hR hpre 24 rfl rfl rfl (by kernel_rfl)
   have f27 := hI.ef hR hpre 27 rfl rfl rfl (by kernel_rfl)
   exact G_pick rfl (.tmp 95) (.tmp 98) (.const (.bool false)) rfl f24 (show _ = _ from f27) (hI.u0 hK rfl)
  refine .mf 28 rfl rfl rfl rfl rfl (by kernel_rfl) rfl ?_
  refine .cons (fun V Ld a W hLi hpre hR hI KK hK => ?_) ?_
  ·
   refine G_gw hI hR hpre 29 rfl rfl rfl rfl (by kernel_rfl) ?_
   have o23 := (hR.old 23 (by kernel_rfl)).trans (show _ = Value.pointer (some ⟨n5, 0, none⟩) from rfl)
   exact J_load rfl _ (.tmp 23) rfl (by rw [o23]; exact ld_desk (C5.out.below hI.st.bl)) (hI.u0 hK rfl)
  refine .cons (fun V Ld a W hLi hpre hR hI KK hK => ?_) ?_
  ·
   refine G_gw hI hR hpre 29 rfl rfl rfl rfl (by kernel_rfl) ?_
   have o25 := (hR.old 25 (by kernel_rfl)).trans (show _ = Value.pointer (some ⟨n6, 0, none⟩) from rfl)
   exact J_load rfl _ (.tmp 25) rfl (by rw [o25]; exact ld_desk (C6.out.below hI.st.bl)) (hI.u0 hK rfl)
  refine .cons (fun V Ld a W hLi hpre hR hI KK hK => ?_) ?_
  ·
   refine G_gw hI hR hpre 29 rfl rfl rfl rfl (by kernel_rfl) ?_
   have o24 := (hR.old 24 (by kernel_rfl)).trans (show _ = Value.int .i64 le from rfl)
   exact G_move rfl (.tmp 24) rfl o24 (hI.u0 hK rfl)
  refine .cons (fun V Ld a W hLi hpre hR hI KK hK => ?_) ?_
  ·
   refine G_gw hI hR hpre 29 rfl rfl rfl rfl (by kernel_rfl) ?_
   have o26 := (hR.old 26 (by kernel_rfl)).trans (show _ = Value.int .i64 le from rfl)
   exact G_move rfl (.tmp 26) rfl o26 (hI.u0 hK rfl)
  refine .cons (fun V Ld a W hLi hpre hR hI KK hK => ?_) ?_
  ·
   refine G_gw hI hR hpre 29 rfl rfl rfl rfl (by kernel_rfl) ?_
   have f30 := hI.ef hR hpre 30 rfl rfl rfl (by kernel_rfl)
   have f31 := hI.ef hR hpre 31 rfl rfl rfl (by kernel_rfl)
   have f32 := hI.ef hR hpre 32 rfl rfl rfl (by kernel_rfl)
   have f33 := hI.ef hR hpre 33 rfl rfl rfl (by kernel_rfl)
   refine J_call rfl _ _ _ rfl enter_same (by simp only [List.map_toArray, List.map_cons, List.map_nil, f30, f31, f32, f33]) (lawSame_any _ _ le _ W (O5.out.below hI.st.bl).read (O6.out.below hI.st.bl).read SL.out) ?_
   rintro e w' ⟨rfl, hb⟩
   exact ⟨_, rfl, hK _ _ (hI.put (R := Bl) hb 34 rfl rfl (hI.st.to hb))⟩
  refine .cons (fun V Ld a W hLi hpre hR hI KK hK => ?_) ?_
  ·
   have f29 := hI.ef hR hpre 29 rfl rfl rfl (by kernel_rfl)
   have f34 := hI.ef hR hpre 34 rfl rfl rfl (by kernel_rfl)
   exact G_pick rfl (.tmp 100) (.tmp 105) (.const (.bool false)) rfl f29 (show _ = _ from f34) (hI.u0 hK rfl)
  refine .mf 35 rfl rfl rfl rfl rfl (by kernel_rfl) rfl ?_
  refine .cons (fun V Ld a W hLi hpre hR hI KK hK => ?_) ?_
  ·
   refine G_gw hI hR hpre 36 rfl rfl rfl rfl (by kernel_rfl) ?_
   have o5 := (hR.old 5 (by kernel_rfl)).trans (show _ = Value.pointer (some ⟨bx, 0, none⟩) from rfl)
   exact J_load rfl _ (.tmp 5) rfl (by rw [o5]; exact ld_desk (C0.out.below hI.st.bl)) (hI.u0 hK rfl)
  refine .cons (fun V Ld a W hLi hpre hR hI KK hK => ?_) ?_
  ·
   refine G_gw hI hR hpre 36 rfl rfl rfl rfl (by kernel_rfl) ?_
   have o4 := (hR.old 4 (by kernel_rfl)).trans (show _ = Value.int .i64 id from rfl)
   exact G_move rfl (.tmp 4) rfl o4 (hI.u0 hK rfl)
  refine .cons (fun V Ld a W hLi hpre hR hI KK hK => ?_) ?_
  ·
   refine G_gw hI hR hpre 36 rfl rfl rfl rfl (by kernel_rfl) ?_
   have f37 := hI.ef hR hpre 37 rfl rfl rfl (by kernel_rfl)
   have f38 := hI.ef hR hpre 38 rfl rfl rfl (by kernel_rfl)
   refine J_call rfl _ _ _ rfl enter_un (by simp only [List.map_toArray, List.map_cons, List.map_nil, f37, f38]) (unseen_any _ id D W (HD0.out.below hI.st.bl) HKL.out) ?_
   rintro e w' ⟨v, rfl, ho, hb⟩
   exact ⟨_, rfl, hK _ _ (hI.put (R := Bl) hb 39 rfl (elsP_of ho) (hI.st.to hb))⟩
  refine .cons (fun V Ld a W hLi hpre hR hI KK hK => ?_) ?_
  ·
   refine G_gw hI hR hpre 36 rfl rfl rfl rfl (by kernel_rfl) ?_
   have o5 := (hR.old 5 (by kernel_rfl)).trans (show _ = Value.pointer (some ⟨bx, 0, none⟩) from rfl)
   exact J_load rfl _ (.tmp 5) rfl (by rw [o5]; exact ld_desk (C0.out.below hI.st.bl)) (hI.u0 hK rfl)
  refine .cons (fun V Ld a W hLi hpre hR hI KK hK => ?_) ?_
  ·
   refine G_gw hI hR hpre 36 rfl rfl rfl rfl (by kernel_rfl) ?_
   have o4 := (hR.old 4 (by kernel_rfl)).trans (show _ = Value.int .i64 id from rfl)
   exact G_move rfl (.tmp 4) rfl o4 (hI.u0 hK rfl)
  refine .cons (fun V Ld a W hLi hpre hR hI KK hK => ?_) ?_
  ·
   refine G_gw hI hR hpre 36 rfl rfl rfl rfl (by kernel_rfl) ?_
   have f40 := hI.ef hR hpre 40 rfl rfl rfl (by kernel_rfl)
   have f41 := hI.ef hR hpre 41 rfl rfl rfl (by kernel_rfl)
   refine J_call rfl _ _ _ rfl enter_runs (by simp only [List.map_toArray, List.map_cons, List.map_nil, f40, f41]) (refUnseen_any _ id D W (HD0.out.below hI.st.bl) HKL.out) ?_
   rintro e w' ⟨v, rfl, ho, hb⟩
   exact ⟨_, rfl, hK _ _ (hI.put (R := Bl) hb 42 rfl (elsP_of ho) (hI.st.to hb))⟩
  refine .cons (fun V Ld a W hLi hpre hR hI KK hK => ?_) ?_
  ·
   refine G_gw hI hR hpre 36 rfl rfl rfl rfl (by kernel_rfl) ?_
   have p39 := pm hpre 39 (by kernel_rfl)
   obtain ⟨A39, c39, e39, h39⟩ := hI.val 39 _ rfl p39
   have f39 := (hR.ev 39 rfl rfl p39).trans e39
   have p42 := pm hpre 42 (by kernel_rfl)
   obtain ⟨A42, c42, e42, h42⟩ := hI.val 42 _ rfl p42
   have f42 := (hR.ev 42 rfl rfl p42).trans e42
   refine J_call rfl _ _ _ rfl enter_sc (by simp only [List.map_toArray, List.map_cons, List.map_nil, f39, f42]) (sameCases_any A39 A42 (unseenL D.ks id) c39 c42 W h39 h42 HUL.out) ?_
   rintro e w' ⟨rfl, hb⟩
   exact ⟨_, rfl, hK _ _ (hI.put (R := Bl) hb 43 rfl rfl (hI.st.to hb))⟩
  refine .cons (fun V Ld a W hLi hpre hR hI KK hK => ?_) ?_
  ·
   have f36 := hI.ef hR hpre 36 rfl rfl rfl (by kernel_rfl)
   have f43 := hI.ef hR hpre 43 rfl rfl rfl (by kernel_rfl)
   exact G_pick rfl (.tmp 107) (.tmp 114) (.const (.bool false)) rfl f36 (show _ = _ from f43) (hI.u0 hK rfl)
  refine .cons (fun V Ld a W hLi hpre hR hI KK hK => ?_) trivial
  ·
   have f44 := hI.ef hR hpre 44 rfl rfl rfl (by kernel_rfl)
   exact G_assign rfl (.tmp 115) rfl f44 (hI.u0 hK rfl)
 case refine_3 =>
  intro V Ld w9 hLd hI
  have e45 : V 45 = _ := hI.val 45 _ rfl (hLd 45 (by decide))
  have hb9 := below_trans HB.out hI.st.bl
  clear hI hLd
  simp only [finL, putL, Act.put, Nat.reduceAdd]
  rw [e45]
  clear e45
  generalize V 0 = z0, V 1 = z1
  generalize V 2 = z2, V 3 = z3
  generalize V 4 = z4, V 5 = z5
  generalize V 6 = z6, V 7 = z7
  generalize V 8 = z8, V 9 = z9
  generalize V 10 = z10, V 11 = z11
  generalize V 12 = z12, V 13 = z13
  generalize V 14 = z14, V 15 = z15
  generalize V 16 = z16, V 17 = z17
  generalize V 18 = z18, V 19 = z19
  generalize V 20 = z20, V 21 = z21
  generalize V 22 = z22, V 23 = z23
  generalize V 24 = z24, V 25 = z25
  generalize V 26 = z26, V 27 = z27
  generalize V 28 = z28, V 29 = z29
  generalize V 30 = z30, V 31 = z31
  generalize V 32 = z32, V 33 = z33
  generalize V 34 = z34, V 35 = z35
  generalize V 36 = z36, V 37 = z37
  generalize V 38 = z38, V 39 = z39
  generalize V 40 = z40, V 41 = z41
  generalize V 42 = z42, V 43 = z43, V 44 = z44
  clear V
  simp only [List.setIfInBounds_toArray, List.set_cons_succ, List.set_cons_zero]
  go_wp2_with fail
  go_ret
  exact RetB.bool rfl hb9
end Go.Proofs.Ytjckpammcgeloaa
namespace Go.Proofs.Ytjckpammcgeloaa
open Go.RowKit

def bAnn : ByteArray := ⟨#[97, 110, 110]⟩
def bBob : ByteArray := ⟨#[98, 111, 98]⟩
def bCid : ByteArray := ⟨#[99, 105, 100]⟩
def bHr : ByteArray := ⟨#[104, 114]⟩
def D0 : DeskD := ⟨[⟨1, bHr, []⟩, ⟨4, bHr, [bBob]⟩], []⟩
theorem two_any (w : World) : Calls Try.prog 23 #[] w (CopD D0 w) := by
  have h : ∀ wf, wf = (((w.alloc (.cells #[.slice (some ⟨w.heap.size + 1 + 1, 0, none⟩) 2 2, .slice none 0 0] 30)).alloc (.cells #[.string ⟨#[98, 111, 98]⟩] 9)).alloc (.cells #[.int .i64 1, .string ⟨#[104, 114]⟩, .slice none 0 0, .int .i64 4, .string ⟨#[104, 114]⟩, .slice (some ⟨w.heap.size + 1, 0, none⟩) 1 1] 45)) → DeskCell wf w.heap.size (.slice (some ⟨w.heap.size + 1 + 1, 0, none⟩) 2 2) (.slice none 0 0) ∧ CopD D0 w (.returned (.agg #[.slice (some ⟨w.heap.size + 1 + 1, 0, none⟩) 2 2, .slice none 0 0])) wf := by
    intro wf hwf
    have b1 := below_alloc w (.cells #[.slice (some ⟨w.heap.size + 1 + 1, 0, none⟩) 2 2, .slice none 0 0] 30)
    have b2 := below_alloc (w.alloc (.cells #[.slice (some ⟨w.heap.size + 1 + 1, 0, none⟩) 2 2, .slice none 0 0] 30)) (.cells #[.string ⟨#[98, 111, 98]⟩] 9)
    have b3 := below_alloc ((w.alloc (.cells #[.slice (some ⟨w.heap.size + 1 + 1, 0, none⟩) 2 2, .slice none 0 0] 30)).alloc (.cells #[.string ⟨#[98, 111, 98]⟩] 9)) (.cells #[.int .i64 1, .string ⟨#[104, 114]⟩, .slice none 0 0, .int .i64 4, .string ⟨#[104, 114]⟩, .slice (some ⟨w.heap.size + 1, 0, none⟩) 1 1] 45)
    rw [← hwf] at b3
    have e2 : wf.heap[w.heap.size + 1]? = some (.cells #[.string ⟨#[98, 111, 98]⟩] 9 (0, 0)) := by
      rw [b3.block _ (by simp)]
      have := heap_alloc_new (w.alloc (.cells #[.slice (some ⟨w.heap.size + 1 + 1, 0, none⟩) 2 2, .slice none 0 0] 30)) (.cells #[.string ⟨#[98, 111, 98]⟩] 9)
      simpa using this
    have e3 : wf.heap[w.heap.size + 1 + 1]? = some (.cells #[.int .i64 1, .string ⟨#[104, 114]⟩, .slice none 0 0, .int .i64 4, .string ⟨#[104, 114]⟩, .slice (some ⟨w.heap.size + 1, 0, none⟩) 1 1] 45 (0, 0)) := by
      have := heap_alloc_new ((w.alloc (.cells #[.slice (some ⟨w.heap.size + 1 + 1, 0, none⟩) 2 2, .slice none 0 0] 30)).alloc (.cells #[.string ⟨#[98, 111, 98]⟩] 9)) (.cells #[.int .i64 1, .string ⟨#[104, 114]⟩, .slice none 0 0, .int .i64 4, .string ⟨#[104, 114]⟩, .slice (some ⟨w.heap.size + 1, 0, none⟩) 1 1] 45)
      rw [← hwf] at this
      simpa using this
    have l2 := blk_ltE e2
    refine ⟨((DeskCell.new _ _ rfl).below b2).below b3, _, _, rfl, ⟨⟨[⟨1, bHr, none, 0, 0⟩, ⟨4, bHr, some ⟨w.heap.size + 1, 0, none⟩, 1, 1⟩], ?_, rfl, fun k hk => ?_⟩, ElOwn.nil _ _ _ _, fun b _ e => by cases e⟩, below_trans (below_trans b1 b2) b3⟩
    · exact ⟨rfl, .inr ⟨w.heap.size + 1 + 1, 2, _, rfl, by omega, e3, Nat.le_refl _, by unfold maxLen; omega, rfl, rfl⟩⟩
    · rcases k with _ | _ | k
      · exact ⟨rfl, rfl, rfl, ElP.nil _ _ _⟩
      · refine ⟨rfl, rfl, rfl, ⟨fun j x hj => ?_, ⟨show 1 ≤ 1 by omega, show 1 ≤ maxLen by unfold maxLen; omega, fun e => (by cases e), .inr (fun a e => (by injection e with e; rw [← e]))⟩, fun b off e => ?_⟩⟩
        · rcases j with _ | j
          · have hj : some bBob = some x := hj
            injection hj with hj
            subst hj
            refine ⟨w.heap.size + 1, 0, rfl, l2, fun i hi => ?_⟩
            have hi : i < 1 := hi
            obtain rfl : i = 0 := by omega
            exact cell_of_row _ _ 0 _ _ (0, 0) e2
          · have hj : ([] : List ByteArray)[j]? = some x := hj
            simp at hj
        · right
          injection e with e
          injection e with e1 e2
          subst e1
          exact ⟨by omega, fun e => (by have e : some (w.heap.size + 1 + 1) = some (w.heap.size + 1) := e; injection e with e; omega), fun e => (by cases e)⟩
      · exact absurd hk (by show ¬ k + 2 < 2; omega)
  have HF := Lib.hid h
  clear h
  go_enter Try.func23, Try.ntmps23
  go_wp2_with fail
  exact bodyPost_ret (results_desk rfl _ _ w.heap.size rfl (HF.out _ rfl).1) rfl (HF.out _ rfl).2

def D1 : DeskD := giveD D0 bAnn bHr 3
def D2 : DeskD := giveD D1 bCid bHr 3
def D3 : DeskD := ackD D2 4
theorem aw_e1 : giveE D0 bAnn bHr 3 = 0 := by decide +kernel
theorem aw_i1 : giveI D0 bAnn bHr 3 = 1 := by decide +kernel
theorem aw_e2 : giveE D1 bCid bHr 3 = 0 := by decide +kernel
theorem aw_i2 : giveI D1 bCid bHr 3 = 4 := by decide +kernel
theorem aw_e3 : ackE D2 4 = 0 := by decide +kernel
theorem aw_r3 : (eqS (ackK D2 4).r bCid && (ackK D2 4).s) = true := by decide +kernel
theorem aw_e4 : leaveE D2 1 = 0 := by decide +kernel
theorem aw_u1 : (unseenL D2.ks 1).length = 1 := by decide +kernel
theorem aw_u2 : (unseenL D3.ks 4).length = 0 := by decide +kernel
theorem aw_c : chkE D3 = 0 := by decide +kernel
theorem cid_list : bCid.toList = [99, 105, 100] := by decide +kernel
theorem eqS_toList {s t : ByteArray} (h : eqS s t = true) : s.toList = t.toList := eq_of_beq h
theorem s0 : DeskS D0 := by
  refine ⟨by decide, by decide, fun k hk => ?_, fun k hk => absurd hk (by show ¬ k < 0; omega)⟩
  rcases k with _ | _ | k
  · exact ⟨by unfold maxLen; decide, by decide, fun j hj => absurd hj (by show ¬ j < 0; omega)⟩
  · refine ⟨by unfold maxLen; decide, by decide, fun j hj => ?_⟩
    obtain rfl : j = 0 := by have hj : j < 1 := hj; omega
    unfold maxLen; decide
  · exact absurd hk (by show ¬ k + 2 < 2; omega)
theorem s1 : DeskS D1 := giveD_small s0 (by decide) _ _ _ (by unfold maxLen; decide) (by unfold maxLen; decide)
theorem k1 : D1.ks.length = 1 := by decide +kernel
theorem k2 : D2.ks.length = 2 := by decide +kernel
theorem s2 : DeskS D2 := giveD_small s1 (by rw [k1]; decide) _ _ _ (by unfold maxLen; decide) (by unfold maxLen; decide)
theorem s3 : DeskS D3 := ackD_small s2 _
set_option maxRecDepth 100000 in
set_option maxHeartbeats 4000000 in
theorem awake32_any (w : World) : Calls Try.prog 9 #[] w (RetB (.bool true) w) := by
  have S0 := Lib.hid s0
  have S1 := Lib.hid s1
  have S2 := Lib.hid s2
  have S3 := Lib.hid s3
  have E1 := Lib.hid aw_e1
  have I1 := Lib.hid aw_i1
  have E2 := Lib.hid aw_e2
  have I2 := Lib.hid aw_i2
  have E3 := Lib.hid aw_e3
  have E4 := Lib.hid aw_e4
  have R3 := Lib.hid aw_r3
  have U1 := Lib.hid aw_u1
  have U2 := Lib.hid aw_u2
  have CC := Lib.hid aw_c
  have KL1 := Lib.hid k1
  have KL2 := Lib.hid k2
  have FA := Lib.hid (show giveD D0 bAnn bHr 3 = D1 from rfl)
  have FB := Lib.hid (show giveD D1 bCid bHr 3 = D2 from rfl)
  have FC := Lib.hid (show ackD D2 4 = D3 from rfl)
  generalize hd0 : D0 = d0 at *
  generalize hd1 : D1 = d1 at *
  generalize hd2 : D2 = d2 at *
  generalize hd3 : D3 = d3 at *
  have ED0 := Lib.hid hd0
  clear hd0 hd1 hd2 hd3
  go_enter Try.func9, Try.ntmps9
  go_wp2_with fail
  refine (two_any w).mono ?_
  rintro e v0 ⟨u0, x0, rfl, ho, hb⟩
  rw [ED0.out] at ho
  have HB := Lib.hid hb
  have O0 := Lib.hid ho
  clear ho hb
  go_wp2_with fail
  refine (give_any _ bAnn bHr 3 d0 v0 O0.out.read S0.out (by unfold maxLen; decide)).mono ?_
  rintro e v1 ⟨u1, x1, rfl, ho, hb⟩
  rw [I1.out, E1.out]
  rw [FA.out] at ho
  obtain ⟨A1, ca1, B1, cb1, eu, ex⟩ := ho.forms
  have O1 := Lib.hid ho
  replace HB := Lib.hid (below_trans HB.out hb)
  have NN := Lib.hid (show w.heap.size ≤ v1.heap.size from HB.out.size)
  subst eu ex
  clear ho hb
  go_wp2_with fail
  refine gen_calls fun w2 hw => ?_
  have hb : Below v1.heap.size v1 w2 := by rw [hw]; exact below_alloc _ _
  have C1 := Lib.hid (show DeskCell w2 v1.heap.size (.slice A1 d1.cs.length ca1) (.slice B1 d1.ks.length cb1) from by rw [hw]; exact DeskCell.new _ _ rfl)
  replace O1 := Lib.hid (O1.out.below hb)
  replace HB := Lib.hid (below_trans HB.out hb)
  clear hw hb O0
  generalize v1.heap.size = n1 at *
  refine (give_any _ bCid bHr 3 d1 w2 O1.out.read S1.out (by unfold maxLen; decide)).mono ?_
  rintro e v2 ⟨u2, x2, rfl, ho, hb⟩
  rw [I2.out, E2.out]
  rw [FB.out] at ho
  obtain ⟨A2, ca2, B2, cb2, eu, ex⟩ := ho.forms
  have hn1 := C1.out.lt
  have O2 := Lib.hid ho
  have HL1 := Lib.hid hn1
  replace HB := Lib.hid (below_trans HB.out hb)
  replace C1 := Lib.hid (C1.out.below hb)
  subst eu ex
  clear ho hb hn1
  have c0 := C1.out.c0
  have c1 := C1.out.c1
  have f0 := C1.out.fz 0
  have f1 := C1.out.fz 1
  have l0 := C1.out.lt
  go_wp2_with fail
  refine gen_calls fun w3 hw => ?_
  have HW := Lib.hid hw
  have HN1 := Lib.hid (show w.heap.size ≤ n1 from NN.out)
  replace HB := Lib.hid (show Below w.heap.size w w3 from by rw [HW.out]; exact below_set (below_set HB.out ⟨n1, 0, none⟩ _ HN1.out) ⟨n1, 1, none⟩ _ HN1.out)
  have D2C := Lib.hid (show DeskCell w3 n1 (.slice A2 d2.cs.length ca2) (.slice B2 d2.ks.length cb2) from by rw [HW.out]; exact (C1.out.set0 _).set1 _)
  replace O2 := Lib.hid (show DeskO w3 w2.heap.size (.slice A2 d2.cs.length ca2) (.slice B2 d2.ks.length cb2) d2 from by rw [HW.out]; exact (O2.out.set ⟨n1, 0, none⟩ _ HL1.out).set ⟨n1, 1, none⟩ _ HL1.out)
  clear hw HW C1 c0 c1 f0 f1 l0 O1
  refine (ack_any _ 4 d2 w3 O2.out.read S2.out).mono ?_
  rintro e v3 ⟨u3, x3, rfl, ho, hb⟩
  rw [E3.out]
  rw [FC.out] at ho
  generalize ackK d2 4 = kx at *
  obtain ⟨A3, ca3, B3, cb3, eu, ex⟩ := ho.forms
  have O3 := Lib.hid ho
  replace HB := Lib.hid (below_trans HB.out hb)
  replace D2C := Lib.hid (D2C.out.below hb)
  replace O2 := Lib.hid (O2.out.below hb)
  subst eu ex
  clear ho hb
  have c0 := D2C.out.c0
  have c1 := D2C.out.c1
  have l0 := D2C.out.lt
  go_wp2_with fail
  refine gen_calls fun w4 hw => ?_
  have hb : Below v3.heap.size v3 w4 := by rw [hw]; exact bl_alloc _ (below_alloc _ _)
  have C3 := Lib.hid (show DeskCell w4 v3.heap.size (.slice A3 d3.cs.length ca3) (.slice B3 d3.ks.length cb3) from by rw [hw]; exact (DeskCell.new _ _ rfl).below (below_alloc _ _))
  have K3 := Lib.hid (show CaseC w4 (v3.heap.size + 1) kx from by rw [hw]; exact CaseC.new kx (by simp))
  replace HB := Lib.hid (below_trans HB.out hb)
  replace D2C := Lib.hid (D2C.out.below hb)
  replace O2 := Lib.hid (O2.out.below hb)
  replace O3 := Lib.hid (O3.out.below hb)
  clear hw hb c0 c1 l0
  generalize v3.heap.size = n3 at *
  refine (leave_any _ 1 d2 w4 O2.out.read S2.out).mono ?_
  rintro e v4 ⟨u4, x4, rfl, ho, hb⟩
  rw [E4.out]
  obtain ⟨A4, ca4, B4, cb4, eu, ex⟩ := ho.forms
  replace HB := Lib.hid (below_trans HB.out hb)
  replace D2C := Lib.hid (D2C.out.below hb)
  replace O2 := Lib.hid (O2.out.below hb)
  replace O3 := Lib.hid (O3.out.below hb)
  replace C3 := Lib.hid (C3.out.below hb)
  replace K3 := Lib.hid (K3.out.below hb)
  subst eu ex
  clear ho hb
  have r3 := R3.out
  rw [Bool.and_eq_true] at r3
  have q1 : kx.r.toList = [99, 105, 100] := (eqS_toList r3.1).trans cid_list
  have k1 := K3.out.c1
  have k4 : v4.cell? ⟨n3 + 1, 4, none⟩ = some (.bool true) := by have := K3.out.c4; rw [r3.2] at this; exact this
  have c0 := D2C.out.c0
  have c1 := D2C.out.c1
  have e0 := C3.out.c0
  have e1 := C3.out.c1
  have l0 := D2C.out.lt
  have l1 := C3.out.lt
  have l2 := K3.out.lt
  clear r3
  go_wp2_with fail
  refine gen_calls fun w5 hw => ?_
  have hb : Below v4.heap.size v4 w5 := by rw [hw]; exact below_alloc _ _
  replace HB := Lib.hid (below_trans HB.out hb)
  replace O2 := Lib.hid (O2.out.below hb)
  replace O3 := Lib.hid (O3.out.below hb)
  replace C3 := Lib.hid (C3.out.below hb)
  clear hw hb k1 k4 c0 c1 e0 e1 l0 l1 l2
  refine (unseen_any _ 1 d2 w5 O2.out.read (by rw [KL2.out]; decide)).mono ?_
  rintro e v5 ⟨vv, rfl, ho, hb⟩
  obtain ⟨A5, c5, e5, -⟩ := ho.toP
  rw [U1.out] at e5
  subst e5
  replace HB := Lib.hid (below_trans HB.out hb)
  replace O3 := Lib.hid (O3.out.below hb)
  replace C3 := Lib.hid (C3.out.below hb)
  clear ho hb
  have e0 := C3.out.c0
  have e1 := C3.out.c1
  have l1 := C3.out.lt
  go_wp2_with fail
  refine (unseen_any _ 4 d3 v5 O3.out.read (by have := S3.out.lk; omega)).mono ?_
  rintro e v6 ⟨vv, rfl, ho, hb⟩
  obtain ⟨A6, c6, e6, -⟩ := ho.toP
  rw [U2.out] at e6
  subst e6
  replace HB := Lib.hid (below_trans HB.out hb)
  replace O3 := Lib.hid (O3.out.below hb)
  replace C3 := Lib.hid (C3.out.below hb)
  clear ho hb e0 e1 l1
  have e0 := C3.out.c0
  have e1 := C3.out.c1
  have l1 := C3.out.lt
  go_wp2_with fail
  refine ret_below (check_any _ d3 v6 O3.out.read S3.out) fun v7 hb => ?_
  rw [CC.out]
  replace HB := Lib.hid (below_trans HB.out hb)
  clear hb e0 e1 l1
  go_wp2_with fail
  go_ret
  exact RetB.bool rfl HB.out
end Go.Proofs.Ytjckpammcgeloaa
namespace Go.Proofs.Ytjckpammcgeloaa
open Go.RowKit

def evR (i : Nat) : ByteArray := ⟨#[UInt8.ofNat (97 + i)]⟩
def evC (n : Nat) : List CouD := (List.range n).map fun j => ⟨(((j + 1) * 3 : Nat) : Int), bHr, []⟩
def evN (D : DeskD) (i : Nat) : DeskD := giveD D (evR i) bHr (i : Int)
def evD (n : Nat) : Nat → DeskD
  | 0 => ⟨evC n, []⟩
  | i + 1 => evN (evD n i) i
def evOK (n i : Nat) (D : DeskD) : Bool := decide (giveE D (evR i) bHr (i : Int) = 0) && (decide (D.ks.length = i) && (List.range n).all fun j => decide (i / n ≤ loadN D.ks (((j + 1) * 3 : Nat) : Int)) && decide (loadN D.ks (((j + 1) * 3 : Nat) : Int) ≤ (i + n - 1) / n))
def evChk (n : Nat) : Nat → Nat → DeskD → Bool
  | 0, _, _ => true
  | f + 1, i, D => evOK n i D && evChk n f (i + 1) (evN D i)
theorem ev1 : evChk 1 40 0 (evD 1 0) = true := by decide +kernel
theorem ev2 : evChk 2 40 0 (evD 2 0) = true := by decide +kernel
theorem ev3 : evChk 3 40 0 (evD 3 0) = true := by decide +kernel
theorem ev4 : evChk 4 40 0 (evD 4 0) = true := by decide +kernel
theorem ev5 : evChk 5 40 0 (evD 5 0) = true := by decide +kernel
theorem evChk_at (n : Nat) : ∀ f i k, evChk n f i (evD n i) = true → k < f → evOK n (i + k) (evD n (i + k)) = true
  | 0, _, _, _, h => absurd h (by omega)
  | f + 1, i, 0, h, _ => by
    unfold evChk at h
    rw [Bool.and_eq_true] at h
    exact h.1
  | f + 1, i, k + 1, h, hk => by
    unfold evChk at h
    rw [Bool.and_eq_true] at h
    have := evChk_at n f (i + 1) k h.2 (by omega)
    rw [show i + (k + 1) = i + 1 + k by omega]; exact this
structure EvF (n i : Nat) : Prop where
  e : giveE (evD n i) (evR i) bHr (i : Int) = 0
  l : (evD n i).ks.length = i
  a : ∀ j, j < n → i / n ≤ loadN (evD n i).ks (((j + 1) * 3 : Nat) : Int) ∧ loadN (evD n i).ks (((j + 1) * 3 : Nat) : Int) ≤ (i + n - 1) / n
theorem ev_all {n i : Nat} (h1 : 1 ≤ n) (h5 : n ≤ 5) (hi : i < 40) : EvF n i := by
  have h : evOK n i (evD n i) = true := by
    have hn : n = 1 ∨ n = 2 ∨ n = 3 ∨ n = 4 ∨ n = 5 := by omega
    rcases hn with rfl | rfl | rfl | rfl | rfl
    · have := evChk_at 1 40 0 i ev1 hi; rw [Nat.zero_add] at this; exact this
    · have := evChk_at 2 40 0 i ev2 hi; rw [Nat.zero_add] at this; exact this
    · have := evChk_at 3 40 0 i ev3 hi; rw [Nat.zero_add] at this; exact this
    · have := evChk_at 4 40 0 i ev4 hi; rw [Nat.zero_add] at this; exact this
    · have := evChk_at 5 40 0 i ev5 hi; rw [Nat.zero_add] at this; exact this
  unfold evOK at h
  simp only [Bool.and_eq_true, decide_eq_true_eq, List.all_eq_true, List.mem_range] at h
  exact ⟨h.1, h.2.1, h.2.2⟩
theorem evC_len (n : Nat) : (evC n).length = n := by simp [evC]
theorem evC_at {n k : Nat} (h : k < n) : cAt (evC n) k = ⟨(((k + 1) * 3 : Nat) : Int), bHr, []⟩ := by simp [cAt, evC, List.getD_eq_getElem?_getD, h]
theorem evC_succ (n : Nat) : evC (n + 1) = evC n ++ [⟨(((n + 1) * 3 : Nat) : Int), bHr, []⟩] := by simp [evC, List.range_succ]
theorem evD_cs (n : Nat) : ∀ i, (evD n i).cs = evC n
  | 0 => rfl
  | i + 1 => by
    show (giveD _ _ _ _).cs = _
    unfold giveD; split
    · exact evD_cs n i
    · exact evD_cs n i
theorem evD_small {n : Nat} (hn : n ≤ 5) : ∀ i, i ≤ 40 → DeskS (evD n i) ∧ (evD n i).ks.length ≤ i
  | 0, _ => ⟨⟨by show (evC n).length ≤ 1000; rw [evC_len]; omega, by show 0 ≤ 1000; omega, fun k hk => by
      have hk : k < n := by have hk : k < (evC n).length := hk; rw [evC_len] at hk; exact hk
      show (cAt (evC n) k).o.size ≤ _ ∧ (cAt (evC n) k).away.length ≤ _ ∧ ShortT (cAt (evC n) k).away
      rw [evC_at hk]
      exact ⟨by unfold maxLen; show bHr.size ≤ _; decide, by show 0 ≤ 1000; omega, fun j hj => absurd hj (by show ¬ j < 0; omega)⟩, fun k hk => absurd hk (by show ¬ k < 0; omega)⟩, Nat.le_refl _⟩
  | i + 1, hi => by
    obtain ⟨h1, h2⟩ := evD_small hn i (by omega)
    refine ⟨giveD_small h1 (by omega) _ _ _ (by unfold maxLen; show 1 ≤ _; omega) (by unfold maxLen; decide), ?_⟩
    show (giveD _ _ _ _).ks.length ≤ _
    unfold giveD; split
    · simp; omega
    · omega
end Go.Proofs.Ytjckpammcgeloaa
namespace Go.Proofs.Ytjckpammcgeloaa
open Go.RowKit

theorem CpS.more0 {w wr w' : World} {ox : Nat} {v vk : Value} {C : List CouD} {K : List CaseD} (h : CpS w wr ox v vk C K) {d : CouD} {g cap : Nat} (hL : d.away = [])
    {X : List CouV} (q1 : ElOwn EC 45 wr w.heap.size v X) (q2 : CousV (fun b => w.heap.size ≤ b ∧ v.ownBlock ≠ some b ∧ vk.ownBlock ≠ some b ∧ b ≠ ox) wr X C) (q3 : ElOwn EC 45 w' w.heap.size (.slice (some ⟨g, 0, none⟩) (X.length + 1) cap) (X ++ [⟨d.id, d.o, none, 0, 0⟩]))
    (hg : wr.grownBy w' v.ownBlock) (hor : v.ownBlock = some g ∨ g = wr.heap.size + 1) :
    CpS w (w'.setCell ⟨ox, 0, none⟩ (.slice (some ⟨g, 0, none⟩) (X.length + 1) cap)) ox (.slice (some ⟨g, 0, none⟩) (X.length + 1) cap) vk (C ++ [d]) K := by
  obtain ⟨l1, l2, l3⟩ := h.lt
  have hwsz := h.hb.size
  have hgox : g ≠ ox := fun e => by
    rcases hor with ho | ho
    · exact (h.ne g ho).2 e
    · omega
  have hgk : vk.ownBlock ≠ some g := fun e => by
    rcases hor with ho | ho
    · exact (h.ne g ho).1 e
    · have := l2 g e; omega
  have hvox : v.ownBlock ≠ some ox := fun e => (h.ne ox e).2 rfl
  have st : ∀ b, b < wr.heap.size → v.ownBlock ≠ some b → w'.heap[b]? = wr.heap[b]? := fun b hlt hne => hg.block b hlt (fun e => hne e.symm)
  have hbw : Below w.heap.size w w' := h.hb.trans ((Below.refl w.heap.size wr).grown hg hwsz (fun j hj => (World.ownsRow.lt q1 j hj).1))
  have hox' : w'.heap[ox]? = wr.heap[ox]? := st ox l3 hvox
  have hown' := q3.kept (w' := w'.setCell ⟨ox, 0, none⟩ (.slice (some ⟨g, 0, none⟩) (X.length + 1) cap)) fun k hk => Below.heap_setCell w' _ _ k (fun e2 => by
    have e3 : k = ox := e2
    have e4 : g = k := by injection hk
    exact hgox (e4.trans e3))
  refine ⟨below_set hbw _ _ h.lo, (h.cell.keep hox').set0 _, h.lo, ⟨_, hown', ?_⟩, ?_, fun b e => ?_, h.nk⟩
  · have q := ((q2.app (CousV.one (x := ⟨d.id, d.o, none, 0, 0⟩) (d := d) ⟨rfl, rfl, by rw [hL]; rfl, by rw [hL]; exact ElP.nil _ _ _⟩)).mono (Q := fun b => (w.heap.size ≤ b ∧ v.ownBlock ≠ some b ∧ vk.ownBlock ≠ some b ∧ b ≠ ox) ∧ g ≠ b) (fun b hl hb => ⟨hb, fun e => by
      rcases hor with ho | ho
      · exact hb.2.1 (by rw [← e]; exact ho)
      · omega⟩)).keep (w' := w') (Kpt.grown hg (fun b hb => hb.1.2.1))
    exact (q.keep (Kpt.set w' ⟨ox, 0, none⟩ _ (fun b hb => hb.1.2.2.2))).mono fun b _ hb => ⟨hb.1.1, fun e => hb.2 (by injection e), hb.1.2.2.1, hb.1.2.2.2⟩
  · exact h.ks.kept fun b e => (Below.heap_setCell w' _ _ b (fun e2 => by have e3 : b = ox := e2; rw [e3] at e; exact h.nk e)).trans (st b (l2 b e) (fun e2 => (h.ne b e2).1 e))
  · have e2 : g = b := by injection e
    subst e2
    exact ⟨hgk, hgox⟩
/-- A desk in a variable; what it refers to lies elsewhere. -/
structure EvS (w wr : World) (ox : Nat) (D : DeskD) (A : Option Addr) (ca : Nat) (B : Option Addr) (cb : Nat) : Prop where
  b : Below w.heap.size w wr
  x : DeskCell wr ox (.slice A D.cs.length ca) (.slice B D.ks.length cb)
  lo : w.heap.size ≤ ox
  r : DeskR (fun b => b ≠ ox) wr (.agg #[.slice A D.cs.length ca, .slice B D.ks.length cb]) D
section
variable {w wr w' : World} {ox : Nat} {D : DeskD} {A B : Option Addr} {ca cb : Nat}
theorem EvS.below (h : EvS w wr ox D A ca B cb) (hb : Below wr.heap.size wr w') : EvS w w' ox D A ca B cb := ⟨below_trans h.b hb, h.x.below hb, h.lo, h.r.below hb⟩
theorem CpS.ev {v : Value} {C : List CouD} (h : CpS w wr ox v (.slice none 0 0) C []) : ∃ A ca, v = .slice A C.length ca ∧ EvS w wr ox ⟨C, []⟩ A ca none 0 := by
  obtain ⟨X, q1, q2⟩ := h.cs
  obtain ⟨A, ca, e, hE⟩ := q1.toP
  have hl : X.length = C.length := q2.len
  rw [hl] at e
  subst e
  refine ⟨A, ca, rfl, h.hb, h.cell, h.lo, A, ca, none, 0, rfl, ⟨X, hE.mono fun b _ hb => (h.ne b hb.1).2, q2.mono fun b _ hb => hb.2.2.2⟩, ElP.nil _ _ _⟩
/-- The desk that a call returned is stored. -/
theorem EvS.store {A' B' : Option Addr} {ca' cb' : Nat} {D' : DeskD} {base : Nat} (h : EvS w wr ox D A ca B cb) (ho : DeskO wr base (.slice A' D'.cs.length ca') (.slice B' D'.ks.length cb') D') (hl : ox < base) :
    EvS w ((wr.setCell ⟨ox, 0, none⟩ (.slice A' D'.cs.length ca')).setCell ⟨ox, 1, none⟩ (.slice B' D'.ks.length cb')) ox D' A' ca' B' cb' :=
  ⟨below_set (below_set h.b ⟨ox, 0, none⟩ _ h.lo) ⟨ox, 1, none⟩ _ h.lo, (h.x.set0 _).set1 _, h.lo, ((ho.read.mono (Q := fun b => b ≠ ox) fun b _ hb => by omega).keep (Kpt.set _ _ _ fun b hb => hb)).keep (Kpt.set _ _ _ fun b hb => hb)⟩
end
theorem ev_str (w : World) (k : Nat) (hk : k < 40) : (convert 46 9 (.slice (some ⟨w.heap.size, 0, none⟩) 1 1)).run Try.prog (w.alloc (.cells #[.int .u8 (97 + (k : Int))] 5)) = .ok (.string (evR k)) (w.alloc (.cells #[.int .u8 (97 + (k : Int))] 5)) := by
  have h := run_convert_bytes_back (P := Try.prog) (w.alloc (.cells #[.int .u8 (97 + (k : Int))] 5)) 46 9 5 ⟨w.heap.size, 0, none⟩ 1 [UInt8.ofNat (97 + k)] Try.underlying46 Try.underlying5 Try.underlying9 (fun j hj => by
    have hj : j < 1 := hj
    obtain rfl : j = 0 := by omega
    have h := heap_alloc_new w (.cells #[.int .u8 (97 + (k : Int))] 5)
    show (w.alloc _).cell? ⟨_, 0 + 0, none⟩ = _
    rw [cell_of_row _ _ 0 _ _ (0, 0) h]
    show some (Value.int .u8 _) = some (Value.int .u8 (((UInt8.ofNat (97 + k)).toNat : Nat) : Int))
    rw [UInt8.toNat_ofNat', Nat.mod_eq_of_lt (by omega)]
    rfl)
  exact h
theorem unseen_load (K : List CaseD) (id : Int) : (unseenL K id).length = loadN K id := by unfold unseenL loadN; rw [List.countP_eq_length_filter]
set_option maxRecDepth 100000 in
set_option maxHeartbeats 4000000 in
theorem counsellorEven_walk (a b : Int) (w : World) (ha : 0 ≤ a ∧ a ≤ 255) (hb : 0 ≤ b ∧ b ≤ 255) :
    Calls Try.prog 4 #[.int .u8 a, .int .u8 b] w (RetB (.bool true) w) := by
  obtain ⟨a1, a2⟩ := ha
  obtain ⟨b1, b2⟩ := hb
  obtain ⟨n, hn⟩ : ∃ n : Nat, (n : Int) = a % 5 := ⟨(a % 5).toNat, by omega⟩
  obtain ⟨m, hm⟩ : ∃ m : Nat, (m : Int) = b % 40 := ⟨(b % 40).toNat, by omega⟩
  have q1 : a.tmod 5 = n := by rw [hn]; exact Int.tmod_eq_emod_of_nonneg a1
  have q2 : b.tmod 40 = m := by rw [hm]; exact Int.tmod_eq_emod_of_nonneg b1
  have n4 : n ≤ 4 := by omega
  have m4 : m < 40 := by omega
  have q3 : IntKind.i64.wrap a = a := IntWalk.i64_in _ (by omega)
  have q4 : IntKind.i64.wrap b = b := IntWalk.i64_in _ (by omega)
  have q5 : (m : Int).tdiv (1 + (n : Int)) = ((m / (n + 1) : Nat) : Int) := by rw [show 1 + (n : Int) = ((n + 1 : Nat) : Int) by omega, ← Int.ofNat_tdiv]
  have q6 : ((m : Int) + (1 + (n : Int)) - 1).tdiv (1 + (n : Int)) = (((m + (n + 1) - 1) / (n + 1) : Nat) : Int) := by rw [show (m : Int) + (1 + (n : Int)) - 1 = ((m + (n + 1) - 1 : Nat) : Int) by omega, show 1 + (n : Int) = ((n + 1 : Nat) : Int) by omega, ← Int.ofNat_tdiv]
  have EF := Lib.hid (fun i (hi : i < 40) => ev_all (n := n + 1) (i := i) (by omega) (by omega) hi)
  have ES := Lib.hid (evD_small (n := n + 1) (by omega))
  have ECS := Lib.hid (evD_cs (n + 1))
  clear hn hm
  generalize hqa : m / (n + 1) = qa at *
  generalize hqb : (m + (n + 1) - 1) / (n + 1) = qb at *
  have qal : qa ≤ 40 := by rw [← hqa]; exact Nat.le_trans (Nat.div_le_self _ _) (by omega)
  have qbl : qb ≤ 45 := by rw [← hqb]; exact Nat.le_trans (Nat.div_le_self _ _) (by omega)
  have HQA := Lib.hid hqa
  have HQB := Lib.hid hqb
  clear hqa hqb
  go_enter Try.func4, Try.ntmps4
  go_wp2_with fail
  refine gen_world fun w1 hw1 => ?_
  have HC0 := Lib.hid (show CpS w w1 w.heap.size (.slice none 0 0) (.slice none 0 0) (evC 0) [] from by rw [hw1]; exact CpS.start (ElOwn.nil _ _ _ _) (Below.refl _ _))
  clear hw1
  generalize hox : w.heap.size = ox at *
  have HOX := Lib.hid hox
  clear hox
  go_loopw [7] (fun i wr => ∃ (k : Nat) (v : Value), k ≤ n + 1 ∧ i = .int .i64 ((k : Int) + 1) ∧ CpS w wr ox v (.slice none 0 0) (evC k) []) (fun i _ => n + 2 - (intOf i).toNat)
  case atStart => exact ⟨0, _, Nat.zero_le _, rfl, HC0.out⟩
  case round =>
    obtain ⟨k, v, hk, rfl, hS⟩ := hrel
    obtain ⟨X, p1, p2⟩ := hS.cs
    obtain ⟨Cx, cx, rfl, -⟩ := p1.toP
    have HS := Lib.hid hS
    have HQ1 := Lib.hid p1
    have HQ2 := Lib.hid p2
    have hxl : X.length ≤ 1000 := by have := p2.len; rw [evC_len] at this; omega
    have o0 := hS.cell.c0
    have lo := hS.cell.lt
    have hle : w.heap.size ≤ wr.heap.size := hS.hb.size
    clear hS p1 p2
    by_cases hlt : k < n + 1
    · have hkl : (k : Int) + 1 ≤ 1 + (n : Int) := by omega
      have HID := Lib.hid (show evC (k + 1) = evC k ++ [⟨((k : Int) + 1) * 3, bHr, []⟩] by rw [evC_succ, show (((k + 1) * 3 : Nat) : Int) = ((k : Int) + 1) * 3 by omega])
      go_wp2_with (first | (at_builtin; refine app_elL EC Try.underlying27 info_cou rfl rfl (.tmp 25) (.tmp 29) rfl (base := w.heap.size) (w := wr) (v := .slice Cx X.length cx) (S := X) ⟨((k : Int) + 1) * 3, bHr, none, 0, 0⟩ rfl rfl HQ1.out wr.heap.size rfl rfl (by omega) (by omega) hle ?_; intro g cap w5 hown5 hg5 hor5; have dc5 : DeskCell w5 ox (.slice Cx X.length cx) (.slice none 0 0) := (hg5.block ox lo (fun e => (HS.out.ne ox e.symm).2 rfl)).trans HS.out.cell; have d5 := dc5.c0; have f5 := dc5.fz 0; have l5 := dc5.lt; have HO5 := Lib.hid hown5; have HG5 := Lib.hid hg5; have HR5 := Lib.hid hor5; clear hown5 hg5 hor5 dc5 o0) | fail)
      go_roundw
      case rel => exact ⟨k + 1, _, by omega, by go_num, by rw [HID.out]; exact CpS.more0 HS.out rfl HQ1.out HQ2.out HO5.out HG5.out HR5.out⟩
      case measure => simp [intOf]; omega
    · obtain rfl : n + 1 = k := by omega
      have hkl : ¬ ((n + 1 : Nat) : Int) + 1 ≤ 1 + (n : Int) := by omega
      obtain ⟨A0, c0, -, hE0⟩ := HS.out.ev
      have HE0 := Lib.hid hE0
      clear hE0 o0
      go_wp2_with fail
      clear HS HQ1 HQ2 hxl lo hle hlt hkl hk HC0
      go_loopw [9] (fun i wr => ∃ (k : Nat) (A : Option Addr) (ca : Nat) (B : Option Addr) (cb : Nat), k ≤ m ∧ i = .int .i64 k ∧ EvS w wr ox (evD (n + 1) k) A ca B cb) (fun i _ => m - (intOf i).toNat)
      case atStart => exact ⟨0, _, _, _, _, Nat.zero_le _, rfl, HE0.out⟩
      case round =>
        obtain ⟨k, A, ca, B, cb, hk, rfl, hS⟩ := hrel
        have HS := Lib.hid hS
        have x0 := hS.x.c0
        have x1 := hS.x.c1
        have xl := hS.x.lt
        clear hS
        by_cases hlt : k < m
        · have hkl : (k : Int) < (m : Int) := by omega
          have k40 : k < 40 := by omega
          have hcv := ev_str wr k k40
          have HSM := Lib.hid (ES.out k (by omega))
          have HEK := Lib.hid (EF.out k k40).e
          go_wp2_with fail
          refine gen_calls fun w2 hw2 => ?_
          have hb2 : Below wr.heap.size wr w2 := by rw [hw2]; exact below_alloc _ _
          have hS2 := HS.out.below hb2
          have HS2 := Lib.hid hS2
          clear hw2 x0 x1 xl hcv
          refine (give_any _ (evR k) bHr k (evD (n + 1) k) w2 hS2.r HSM.out.1 (by unfold maxLen; show 1 ≤ _; omega)).mono ?_
          rintro e w3 ⟨u1, v1, rfl, ho, hb3⟩
          rw [HEK.out]
          have ho : DeskO w3 w2.heap.size u1 v1 (evD (n + 1) (k + 1)) := ho
          obtain ⟨A1, ca1, B1, cb1, eu, ex⟩ := ho.forms
          subst eu ex
          have HO := Lib.hid ho
          have HS3 := Lib.hid (hS2.below hb3)
          have x0 := HS3.out.x.c0
          have x1 := HS3.out.x.c1
          have xl := HS3.out.x.lt
          have xz := hS2.x.lt
          have f0 := HS3.out.x.fz 0
          have f1 := HS3.out.x.fz 1
          clear ho hb3 hb2 hS2
          go_wp2_with fail
          go_roundw
          case rel => exact ⟨k + 1, A1, ca1, B1, cb1, by omega, by go_num, (HS3.out.store HO.out xz).below (below_alloc _ _)⟩
          case measure => simp [intOf]; omega
        · obtain rfl : m = k := by omega
          have hkl : ¬ (m : Int) < (m : Int) := by omega
          have HEM := Lib.hid (EF.out m m4)
          have HSM := Lib.hid (ES.out m (by omega))
          have HLM := Lib.hid (EF.out m m4).l
          go_wp2_with fail
          clear x0 x1 xl HE0 EF ES
          go_loopw [13] (fun i wr => ∃ (k : Nat), k ≤ n + 1 ∧ i = .int .i64 ((k : Int) + 1) ∧ EvS w wr ox (evD (n + 1) m) A ca B cb) (fun i _ => n + 2 - (intOf i).toNat)
          case atStart => exact ⟨0, Nat.zero_le _, rfl, HS.out⟩
          case round =>
            obtain ⟨k, hk, rfl, hS⟩ := hrel
            have HS4 := Lib.hid hS
            have x0 := hS.x.c0
            have x1 := hS.x.c1
            have xl := hS.x.lt
            clear hS
            by_cases hlt : k < n + 1
            · have hkl : (k : Int) + 1 ≤ 1 + (n : Int) := by omega
              have HLD := Lib.hid (show qa ≤ loadN (evD (n + 1) m).ks (((k : Int) + 1) * 3) ∧ loadN (evD (n + 1) m).ks (((k : Int) + 1) * 3) ≤ qb from by
                have := HEM.out.a k hlt
                rw [show (((k + 1) * 3 : Nat) : Int) = ((k : Int) + 1) * 3 by omega, HQA.out, HQB.out] at this; exact this)
              go_wp2_with fail
              refine (unseen_any _ (((k : Int) + 1) * 3) (evD (n + 1) m) wr HS4.out.r (by have := HSM.out.1.lk; omega)).mono ?_
              rintro e w6 ⟨vv, rfl, ho, hb6⟩
              obtain ⟨A5, c5, e5, -⟩ := ho.toP
              rw [unseen_load] at e5
              subst e5
              have HS6 := Lib.hid (HS4.out.below hb6)
              obtain ⟨g1, g2⟩ := HLD.out
              generalize loadN (evD (n + 1) m).ks (((k : Int) + 1) * 3) = ld at *
              have t1 : ¬ (ld : Int) < (qa : Int) := by omega
              have t2 : ¬ (qb : Int) < (ld : Int) := by omega
              have t1d : decide ((ld : Int) < (qa : Int)) = false := decide_eq_false t1
              have t2d : decide ((qb : Int) < (ld : Int)) = false := decide_eq_false t2
              clear ho hb6 x0 x1 xl
              go_wp2_with fail
              go_roundw
              case rel => exact ⟨k + 1, by omega, by go_num, HS6.out⟩
              case measure => simp [intOf]; omega
            · have hkl : ¬ (k : Int) + 1 ≤ 1 + (n : Int) := by omega
              go_wp2_with fail
              refine ret_below (awake32_any wr) fun w7 hb7 => ?_
              have HS7 := Lib.hid (HS4.out.below hb7)
              have hx1 := HS7.out.x.c1
              have xl7 := HS7.out.x.lt
              rw [HLM.out] at hx1
              clear hb7 x0 x1 xl
              go_wp2_with fail
              go_ret
              exact RetB.bool rfl HS7.out.b
end Go.Proofs.Ytjckpammcgeloaa
