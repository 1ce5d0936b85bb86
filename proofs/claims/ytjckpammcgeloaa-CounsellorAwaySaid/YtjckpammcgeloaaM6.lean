/-
  Tallies: the first that satisfies; append of one in a drawn region.
  Desks: the choice of a counsellor.
  Desks: the last time.
  Desks: a case is given.
  Desks: a case is seen.
  Desks: what slices.DeleteFunc and slices.Delete leave of rows of the own.
  Desks: slices.DeleteFunc over cases.
  Desks: slices.Delete over counsellors.
  Conditions: those that each theorem names.
-/
import Derived.Test.YtjckpammcgeloaaM5
import Derived.Lib.SliceRun
import Derived.Deep.RegionLaw
import Derived.Outline
set_option linter.unusedVariables false
set_option linter.unusedSimpArgs false
namespace Go.Proofs.Ytjckpammcgeloaa
open Go.RowKit

theorem ixTal_at {T : TalD → Bool} {S : List TalD} {k : Nat} (hk : k < S.length) (h : T (tAt S k) = true) (hp : ∀ j, j < k → T (tAt S j) = false) : ixK T S = k := ixK_at (⟨0, 0, 0⟩ : TalD) hk h hp
theorem ixTal_no {T : TalD → Bool} {S : List TalD} (h : ∀ j, j < S.length → T (tAt S j) = false) : ixK T S = -1 := ixK_no (⟨0, 0, 0⟩ : TalD) h
theorem idxT2_any {P : Nat → Prop} (n : Nat) (u : Value) (T : TalD → Bool) (A : Option Addr) (C : List TalD) (c : Nat) (w : World) (hC : ElP ET P w A c C) (hl : C.length ≤ 100000) (hn : ∀ args w, (callFunc n args).run Try.prog w = .ok (.enter n args) w)
    (hT : ∀ (W : World) (d : TalD), Below w.heap.size w W → Calls Try.prog n #[talV d, u] W (RetB (.bool (T d)) W)) :
    Calls Try.prog 66 #[.slice A C.length c, .func (.func n) #[] #[u]] w (RetB (.int .i64 (ixK T C)) w) := by
  have HC := Lib.hid hC
  have HT := Lib.hid hT
  clear hC hT
  go_enter Try.func66, Try.ntmps66
  go_wp2_with fail
  go_loopw [8] (fun i wr => ∃ k : Nat, k ≤ C.length ∧ i = .int .i64 k ∧ (∀ j, j < k → T (tAt C j) = false) ∧ Below w.heap.size w wr) (fun i _ => C.length - (intOf i).toNat)
  case atStart => exact ⟨0, Nat.zero_le _, rfl, fun j hj => absurd hj (by omega), Below.refl _ _⟩
  case round =>
    obtain ⟨k, hk, rfl, hpre, hbr⟩ := hrel
    have HP := Lib.hid hpre
    clear hpre
    by_cases hlt : k < C.length
    · obtain ⟨b, off, rfl, hbl, -, c0, c1, c2⟩ := (HC.out.below hbr).tal hlt
      have hk0 : (0 : Int) ≤ (k : Int) := by omega
      have hkl : (k : Int) < (C.length : Int) := by omega
      go_wp2_with fail
      refine ret_below (HT.out _ (tAt C k) hbr) fun w2 hb2 => ?_
      generalize hx : T (tAt C k) = tv at *
      have HX := Lib.hid hx
      clear hx c0 c1 c2
      have hbw := below_trans hbr hb2
      cases tv with
      | true =>
        have HV := Lib.hid (ixTal_at hlt HX.out HP.out)
        go_wp2_with fail
        go_ret
        exact RetB.int HV.out.symm hbw
      | false =>
        go_wp2_with fail
        go_roundw
        case rel =>
          refine ⟨k + 1, by omega, by go_num, fun j hj => ?_, hbw⟩
          by_cases hjk : j = k
          · subst hjk; exact HX.out
          · exact HP.out j (by omega)
        case measure => simp [intOf]; omega
    · have HV := Lib.hid (ixTal_no (T := T) (fun j hj => HP.out j (by omega)))
      go_wp2_with fail
      go_ret
      exact RetB.int HV.out.symm hbr

set_option maxHeartbeats 1000000 in
theorem anyT2_any {P : Nat → Prop} (n : Nat) (u : Value) (T : TalD → Bool) (A : Option Addr) (C : List TalD) (c : Nat) (w : World) (hC : ElP ET P w A c C) (hl : C.length ≤ 100000) (hn : ∀ args w, (callFunc n args).run Try.prog w = .ok (.enter n args) w)
    (hT : ∀ (W : World) (d : TalD), Below w.heap.size w W → Calls Try.prog n #[talV d, u] W (RetB (.bool (T d)) W)) :
    Calls Try.prog 54 #[.slice A C.length c, .func (.func n) #[] #[u]] w (RetB (.bool (C.any T)) w) := by
  have HV := Lib.hid (ixK_any (⟨0, 0, 0⟩ : TalD) T C)
  have HC := Lib.hid (idxT2_any n u T A C c w hC hl hn hT)
  clear hC hT
  go_enter Try.func54, Try.ntmps54
  go_wp2_with fail
  refine ret_below HC.out fun w2 hb2 => ?_
  generalize ixK T C = i at *
  go_wp2_with fail
  go_ret
  exact RetB.bool HV.out hb2
def isTal (id : Int) (d : TalD) : Bool := d.id == id
theorem ch1_any (p : Nat) (id : Int) (w : World) (d : TalD) (hp : p < w.heap.size) (hc : w.cell? ⟨p, 0, none⟩ = some (.int .i64 id)) :
    Calls Try.prog 55 #[talV d, .pointer (some ⟨p, 0, none⟩)] w (RetB (.bool (isTal id d)) w) := by
  have HV := Lib.hid (show (d.id == id) = isTal id d from rfl)
  go_enter Try.func55, Try.ntmps55
  go_wp2_with fail
  go_ret
  exact RetB.bool HV.out (below_alloc _ _)
theorem enter_ch1 (args : Array Value) (w : World) : (callFunc 55 args).run Try.prog w = .ok (.enter 55 args) w :=
  Go.MuLone.run_callFunc_enter Try.func55 (by kernel_rfl) rfl args w
theorem enter_count (args : Array Value) (w : World) : (callFunc 52 args).run Try.prog w = .ok (.enter 52 args) w :=
  Go.MuLone.run_callFunc_enter Try.func52 (by kernel_rfl) rfl args w
theorem bs_tal (w : World) (t : TalD) : (Instr.buildSlice 82 1 #[(0, talV t)]).run Try.prog w = .ok (.slice (some ⟨w.heap.size, 0, none⟩) 1 1) (w.alloc (.cells #[.int .i64 t.id, .int .i64 t.l, .int .i64 t.n] 85)) := by go_simp
/-- append of one tally, in a region that draws. -/
theorem J_app_tal {ops : Array Oper} {o : Oper} {a : Act} {K : Act → World → Prop} {Q : Exit → Act → World → Prop} {X : Prop} (W : World) (hgd : o.guard = none) (s x : Operand)
    (ho : o.op = .call { callee := .builtin .append, args := #[s, x], argTypes := #[82, 82] })
    (base : Nat) (v : Value) (S : List TalD) (y : TalD) (g0 : Nat) (hs : a.eval s = v) (hx : a.eval x = .slice (some ⟨g0, 0, none⟩) 1 1)
    (hlit : TalC W g0 y) (hown : ElOwn ET 85 W base v S) (hl : S.length ≤ 100000) (hbase : base ≤ W.heap.size)
    (h : ∀ g cap w', ElOwn ET 85 w' base (.slice (some ⟨g, 0, none⟩) (S.length + 1) cap) (S ++ [y]) → W.grownBy w' v.ownBlock → (v.ownBlock = some g ∨ g = W.heap.size) → K (a.put o.dst (.slice (some ⟨g, 0, none⟩) (S.length + 1) cap)) w') :
    if Region.wanted o (yielded ops a.tmps) = true then Oper.wp Try.prog o a W K Q else X := by
  obtain ⟨i0, hi, hz0, hz1, hz2⟩ := info_parts info_tal
  have hE1 : ET.flat [y] = ET.f y := by simp [El.flat]
  refine step_append_lies _ hgd s x 82 ho base 85 i0 _ 3 24 Try.underlying82 hi hz0 hz1 hz2 rfl (by omega) v S.length (ET.flat S) hs hown ⟨g0, 0, none⟩ 1 1 (ET.f y) hx rfl (fun j u hu => ?_) (fun u hu => ET.one y u hu) (by omega) (by unfold maxLen; omega) (by omega) hbase _ rfl ?_
  · have hj : j = 0 ∨ j = 1 ∨ j = 2 ∨ 3 ≤ j := by omega
    have e : (⟨g0, 0, none⟩ : Addr).add j = ⟨g0, j, none⟩ := by unfold Addr.add; split <;> simp_all
    rw [e]
    rcases hj with rfl | rfl | rfl | hj
    · rw [hlit.c0, ← hu]; rfl
    · rw [hlit.c1, ← hu]; rfl
    · rw [hlit.c2, ← hu]; rfl
    · rw [List.getElem?_eq_none (by show 3 ≤ j; exact hj)] at hu; cases hu
  · intro g cap w' ho' hg hat _
    refine h g cap w' ?_ hg hat
    unfold ElOwn
    rw [List.length_append, El.flat_append, hE1]
    exact ho'
theorem st_tal {w : World} {x : Nat} {v u : Value} (h : w.heap[x]? = some (.cells #[v] 82 (0, 0))) (hu : ∃ A n c, u = .slice A n c) : (Instr.storeAt 82 (.pointer (some ⟨x, 0, none⟩)) u).run Try.prog w = .ok () (w.setCell ⟨x, 0, none⟩ u) := by
  obtain ⟨A, n, c, rfl⟩ := hu
  have c0 : w.cell? ⟨x, 0, none⟩ = some v := by rw [cell_of_row w x 0 _ _ (0, 0) h]; rfl
  have f0 : w.frozen? ⟨x, 0, none⟩ = false := by simp [World.frozen?, h]
  go_simp
theorem upd_keep (L : Nat → Bool) (i : Nat) {k : Nat} (h : L k = true) : upd L i k = true := by
  by_cases e : k = i
  · subst e; exact upd_same L k
  · rw [upd_other L e]; exact h
/-- One tally more: what holds under way. -/
structure ChS (W0 : World) (x7 B : Nat) (v : Value) (L : List TalD) (t : TalD) (V : Nat → Value) (Ld : Nat → Bool) (W : World) : Prop where
  bl : Below x7 W0 W
  kp : ∀ b, b < W0.heap.size → b ≠ x7 → v.ownBlock ≠ some b → W.heap[b]? = W0.heap[b]?
  lt : x7 < B ∧ B ≤ W0.heap.size
  ow : Ld 6 = false → ElOwn ET 85 W B v L
  v5 : Ld 5 = true → Ld 6 = false → ∃ g, V 5 = .slice (some ⟨g, 0, none⟩) 1 1 ∧ TalC W g t ∧ W0.heap.size ≤ g
  v6 : Ld 6 = true → ElOwn ET 85 W B (V 6) (L ++ [t])
  c7 : Ld 7 = false → W.heap[x7]? = some (.cells #[v] 82 (0, 0))
  d6 : Ld 6 = true → Ld 0 = true
  d7 : Ld 7 = true → Ld 6 = true ∧ W.heap[x7]? = some (.cells #[V 6] 82 (0, 0))
section
variable {W0 w w' : World} {x7 B : Nat} {v : Value} {L : List TalD} {t : TalD} {V : Nat → Value} {Ld : Nat → Bool}
theorem ChS.start (hx : x7 < B) (hB : B ≤ W0.heap.size) (ho : ElOwn ET 85 W0 B v L) (hc : W0.heap[x7]? = some (.cells #[v] 82 (0, 0))) : ChS W0 x7 B v L t V (fun _ => false) W0.drew :=
  ⟨(Below.refl _ _).drew, fun _ _ _ _ => rfl, ⟨hx, hB⟩, fun _ => ho.kept (fun _ _ => rfl), fun e => (by cases e), fun e => (by cases e), fun _ => hc, fun e => (by cases e), fun e => (by cases e)⟩
theorem ChS.mv (h : ChS W0 x7 B v L t V Ld w) (i : Nat) (hi : i ≠ 5 ∧ i ≠ 6 ∧ i ≠ 7) {u : Value} (hb : Below w.heap.size w w') : ChS W0 x7 B v L t (updV V i u) (upd Ld i) w' := by
  obtain ⟨i5, i6, i7⟩ := hi
  have a := fun k (hk : k ≠ i) => upd_other Ld hk
  have b := fun k (hk : k ≠ i) => updV_other V u hk
  have hsz := h.bl.size
  refine ⟨h.bl.trans (hb.mono (by have := h.lt; omega)), fun k k1 k2 k3 => (hb.block k (by omega)).trans (h.kp k k1 k2 k3), h.lt, ?_, ?_, ?_, ?_, ?_, ?_⟩
  · rw [a 6 (Ne.symm i6)]; exact fun e => (h.ow e).below hb
  · rw [a 5 (Ne.symm i5), a 6 (Ne.symm i6), b 5 (Ne.symm i5)]; intro e1 e2; obtain ⟨g, q1, q2, q3⟩ := h.v5 e1 e2; exact ⟨g, q1, q2.below hb, q3⟩
  · rw [a 6 (Ne.symm i6), b 6 (Ne.symm i6)]; exact fun e => (h.v6 e).below hb
  · rw [a 7 (Ne.symm i7)]; exact fun e => (hb.block x7 (blk_ltE (h.c7 e))).trans (h.c7 e)
  · rw [a 6 (Ne.symm i6)]; exact fun e => upd_keep Ld i (h.d6 e)
  · rw [a 7 (Ne.symm i7), a 6 (Ne.symm i6), b 6 (Ne.symm i6)]; exact fun e => ⟨(h.d7 e).1, (hb.block x7 (blk_ltE (h.d7 e).2)).trans (h.d7 e).2⟩
theorem ChS.o5 (h : ChS W0 x7 B v L t V Ld w) : ChS W0 x7 B v L t (updV V 5 (.slice (some ⟨w.heap.size, 0, none⟩) 1 1)) (upd Ld 5) (w.alloc (.cells #[.int .i64 t.id, .int .i64 t.l, .int .i64 t.n] 85)) := by
  have hb := below_alloc w (.cells #[.int .i64 t.id, .int .i64 t.l, .int .i64 t.n] 85)
  have hsz := h.bl.size
  exact ⟨h.bl.trans (hb.mono (by have := h.lt; omega)), fun k k1 k2 k3 => (hb.block k (by omega)).trans (h.kp k k1 k2 k3), h.lt, fun e => (h.ow e).below hb, fun _ _ => ⟨_, rfl, TalC.new t rfl, hsz⟩, fun e => (h.v6 e).below hb, fun e => (hb.block x7 (blk_ltE (h.c7 e))).trans (h.c7 e), h.d6, fun e => ⟨(h.d7 e).1, (hb.block x7 (blk_ltE (h.d7 e).2)).trans (h.d7 e).2⟩⟩
theorem ChS.l70 (h : ChS W0 x7 B v L t V Ld w) (h0 : Ld 0 = false) : Ld 7 = false := by cases e : Ld 7 with
  | false => rfl
  | true => rw [h.d6 (h.d7 e).1] at h0; cases h0
theorem ChS.l7 (h : ChS W0 x7 B v L t V Ld w) (h6 : Ld 6 = false) : Ld 7 = false := by cases e : Ld 7 with
  | false => rfl
  | true => rw [(h.d7 e).1] at h6; cases h6
theorem ChS.o6 (h : ChS W0 x7 B v L t V Ld w) (h6 : Ld 6 = false) (p0 : Ld 0 = true) {u : Value} (ho : ElOwn ET 85 w' B u (L ++ [t])) (hg : w.grownBy w' v.ownBlock) : ChS W0 x7 B v L t (updV V 6 u) (upd Ld 6) w' := by
  have hsz := h.bl.size
  have hlt := h.lt
  have hv : ∀ k, v.ownBlock = some k → B ≤ k := fun k hk => (World.ownsRow.lt (h.ow h6) k hk).1
  have l7 := h.l7 h6
  refine ⟨h.bl.trans ((Below.refl x7 w).grown hg (by omega) (fun k hk => by have := hv k hk; omega)), fun k k1 k2 k3 => (hg.block k (by omega) (fun e => k3 e.symm)).trans (h.kp k k1 k2 k3), h.lt, fun e => (by cases e), fun _ e => (by cases e), fun _ => ho, fun e => ?_, fun _ => p0, fun e => ?_⟩
  · exact (hg.block x7 (by omega) (fun e => by have := hv x7 e.symm; omega)).trans (h.c7 l7)
  · have e : Ld 7 = true := e
    rw [l7] at e; cases e
theorem ChS.o7 (h : ChS W0 x7 B v L t V Ld w) (p6 : Ld 6 = true) (h7 : Ld 7 = false) {u : Value} : ChS W0 x7 B v L t (updV V 7 u) (upd Ld 7) (w.setCell ⟨x7, 0, none⟩ (V 6)) := by
  have hsz := h.bl.size
  have hlt := h.lt
  have c7 := h.c7 h7
  refine ⟨below_set h.bl _ _ (Nat.le_refl _), fun k k1 k2 k3 => (Below.heap_setCell w _ _ k k2).trans (h.kp k k1 k2 k3), h.lt, fun e => ?_, fun _ e => ?_, fun _ => ?_, fun e => (by cases e), h.d6, fun _ => ⟨p6, ?_⟩⟩
  · have e : Ld 6 = false := e
    rw [p6] at e; cases e
  · have e : Ld 6 = false := e
    rw [p6] at e; cases e
  · exact (h.v6 p6).kept (fun k hk => Below.heap_setCell w _ _ k (by have := (World.ownsRow.lt (h.v6 p6) k hk).1; show k ≠ x7; omega))
  · simp [World.setCell, Array.getElem?_modify, c7]; rfl
end
end Go.Proofs.Ytjckpammcgeloaa
namespace Go.Proofs.Ytjckpammcgeloaa
open Go.RowKit Go.Shelf

attribute [local go_sem] Oper.semAt_some

theorem cell_tal {w : World} {x : Nat} {v : Value} (h : w.heap[x]? = some (.cells #[v] 82 (0, 0))) : w.cell? ⟨x, 0, none⟩ = some v := by rw [cell_of_row w x 0 _ _ (0, 0) h]; rfl
theorem chs_sl {w : World} {B : Nat} {v : Value} {L : List TalD} (h : ElOwn ET 85 w B v L) : ∃ A n c, v = .slice A n c := by
 obtain ⟨A, c, e, -⟩ := h.toP
 exact ⟨A, _, c, e⟩
def talL (K : List CaseD) (C : List CouD) (r o : ByteArray) : List TalD := (C.filter (fun d => canB d r o)).map (fun d => talD K d.id)
theorem talL_len (K : List CaseD) (C : List CouD) (r o : ByteArray) : (talL K C r o).length ≤ C.length := by unfold talL; rw [List.length_map]; exact List.length_filter_le _ _
theorem talL_yes {K : List CaseD} {C : List CouD} {r o : ByteArray} {k : Nat} (h : k < C.length) (q : canB (cAt C k) r o = true) : talL K (C.take (k + 1)) r o = talL K (C.take k) r o ++ [talD K (cAt C k).id] := by
 unfold talL; rw [take_c h, List.filter_append, List.map_append, List.filter_cons_of_pos (by exact q)]; rfl
theorem talL_no {K : List CaseD} {C : List CouD} {r o : ByteArray} {k : Nat} (h : k < C.length) (q : canB (cAt C k) r o = false) : talL K (C.take (k + 1)) r o = talL K (C.take k) r o := by
 unfold talL; rw [take_c h, List.filter_append, List.map_append, List.filter_cons_of_neg (by simp [q])]; simp
def chPL (_bx g9 : Nat) (A B : Option Addr) (ca cb : Nat) (C : List CouD) (K : List CaseD) (v7 : Value) (x : CouD) : List (Pr (fun _ _ => True)) := [Pr.eq (v7), Pr.eq (.agg #[.slice A C.length ca, .slice B K.length cb]), Pr.eq (.pointer (some ⟨g9, 0, none⟩)), Pr.eq (.int .i64 x.id), Pr.eq (talV (talD K x.id)), Pr.any, Pr.any, Pr.any]
theorem put_as {K : Act → World → Prop} {a : Act} {d : Option Tmp} {v u : Value} {w : World} (h : K (a.put d u) w) (e : u = v) : K (a.put d v) w := e ▸ h
def BoxE (w : World) (x : Nat) (u : Value) (ty : TypeId) : Prop := w.heap[x]? = some (.cells #[u] ty (0, 0))
theorem BoxE.cell {w : World} {x : Nat} {u : Value} {ty : TypeId} (h : BoxE w x u ty) : w.cell? ⟨x, 0, none⟩ = some u := by rw [cell_of_row w x 0 _ _ (0, 0) h]; rfl
theorem BoxE.lt {w : World} {x : Nat} {u : Value} {ty : TypeId} (h : BoxE w x u ty) : x < w.heap.size := blk_ltE h
theorem BoxE.fz {w : World} {x : Nat} {u : Value} {ty : TypeId} (h : BoxE w x u ty) : w.frozen? ⟨x, 0, none⟩ = false := by unfold BoxE at h; simp [World.frozen?, h]
theorem BoxE.new {w : World} {x : Nat} (u : Value) (ty : TypeId) (h : x = w.heap.size) : BoxE (w.alloc (.cells #[u] ty)) x u ty := by subst h; exact heap_alloc_new w _
theorem BoxE.below {w w' : World} {x : Nat} {u : Value} {ty : TypeId} (h : BoxE w x u ty) (hb : Below w.heap.size w w') : BoxE w' x u ty := (hb.block x (blk_ltE h)).trans h
theorem BoxE.keep {B : Nat} {w w' : World} {x : Nat} {u : Value} {ty : TypeId} (h : BoxE w x u ty) (hb : Below B w w') (hx : x < B) : BoxE w' x u ty := (hb.block x hx).trans h
/-- The boxes of choose. -/
structure ChB (w wh : World) (bx : Nat) (u v : Value) (r o : ByteArray) : Prop where
 b : Below bx w wh
 d : DeskCell wh bx u v
 r : BoxE wh (bx + 1) (.string r) 9
 o : BoxE wh (bx + 1 + 1) (.string o) 9
 z : BoxE wh (bx + 1 + 1 + 1) (.int .i64 0) 3
theorem ChB.keep {w wh wr : World} {bx : Nat} {u v : Value} {r o : ByteArray} (h : ChB w wh bx u v r o) (hb : Below (bx + 1 + 1 + 1 + 1) wh wr) : ChB w wr bx u v r o :=
 ⟨h.b.trans (hb.mono (by omega)), h.d.keep (hb.block _ (by omega)), h.r.keep hb (by omega), h.o.keep hb (by omega), h.z.keep hb (by omega)⟩
theorem ChB.new (w : World) (u v : Value) (r o : ByteArray) (t : TypeId) : ChB w (((((w.alloc (.cells #[u, v] 30)).alloc (.cells #[.string r] 9)).alloc (.cells #[.string o] 9)).alloc (.cells #[.int .i64 0] 3)).alloc (.cells #[.slice none 0 0] t)) w.heap.size u v r o :=
 ⟨bl_alloc _ (bl_alloc _ (bl_alloc _ (bl_alloc _ (below_alloc _ _)))), ((((DeskCell.new _ _ rfl).below (below_alloc _ _)).below (below_alloc _ _)).below (below_alloc _ _)).below (below_alloc _ _),
  (((BoxE.new _ _ (by simp)).below (below_alloc _ _)).below (below_alloc _ _)).below (below_alloc _ _), ((BoxE.new _ _ (by simp)).below (below_alloc _ _)).below (below_alloc _ _), (BoxE.new _ _ (by simp)).below (below_alloc _ _)⟩
def hitK (r o : ByteArray) (x : CaseD) : Bool := eqS x.r r && eqS x.o o
def chI (K : List CaseD) (L : List TalD) (r o : ByteArray) : Int := if L.length = 0 then 0 else match K.reverse.find? (hitK r o) with | some x => (if L.any (isTal x.c) = true then x.c else (minK L (L.length - 1)).id) | none => (minK L (L.length - 1)).id
def AllN (K : List CaseD) (T : CaseD → Bool) (pre : List (Fin K.length)) : Prop := ∀ y ∈ pre, T (kAt K y.1) = false
def HitN (K : List CaseD) (T : CaseD → Bool) (pre : List (Fin K.length)) (c : Int) : Prop := ∃ q y, pre = q ++ [y] ∧ AllN K T q ∧ T (kAt K y.1) = true ∧ c = (kAt K y.1).c
theorem AllN.snoc {K : List CaseD} {T : CaseD → Bool} {pre : List (Fin K.length)} {y : Fin K.length} (h : AllN K T pre) (hy : T (kAt K y.1) = false) : AllN K T (pre ++ [y]) := fun z hz => by
 rcases List.mem_append.1 hz with hz | hz
 ·
  exact h z hz
 ·
  simp at hz; subst hz; exact hy
theorem kAt_mem {K : List CaseD} {x : CaseD} {j : Nat} (h : x ∈ K.drop j) : ∃ k, j ≤ k ∧ k < K.length ∧ x = kAt K k := by
 obtain ⟨k, hk, e⟩ := List.getElem_of_mem h
 have hk' : j + k < K.length := by simp at hk; omega
 have e2 : K[j + k]? = some x := by rw [List.getElem_drop] at e; rw [List.getElem?_eq_getElem hk', e]
 rw [kAt_get hk'] at e2
 exact ⟨j + k, by omega, hk', by injection e2 with e2; exact e2.symm⟩
theorem AllN.done {K : List CaseD} {T : CaseD → Bool} (h : AllN K T (dnF K.length K.length (Nat.le_refl _))) : K.reverse.find? T = none := by
 rw [List.find?_eq_none]
 intro x hx
 obtain ⟨k, -, hk, rfl⟩ := kAt_mem (j := 0) (by rw [List.drop_zero]; exact List.mem_reverse.1 hx)
 rw [h ⟨k, hk⟩ ((mem_dnF _ _ _ _).2 (by simp))]; simp
theorem HitN.stop {K : List CaseD} {T : CaseD → Bool} {pre : List (Fin K.length)} {c : Int} (h : HitN K T pre c) (hd : ∃ k h, pre = dnF K.length k h) : ∃ x, K.reverse.find? T = some x ∧ x.c = c := by
 obtain ⟨q, y, hp, hq, hy, rfl⟩ := h
 obtain ⟨k, hk, hd⟩ := hd
 rw [hp] at hd
 rcases k with _ | k
 ·
  simp [dnF] at hd
 ·
  rw [dnF] at hd
  obtain ⟨h1, h2⟩ := List.append_inj' hd rfl
  simp at h2
  have hv : y.1 = K.length - 1 - k := by rw [h2]
  have hn : ∀ x ∈ K.drop (y.1 + 1), T x = false := fun x hx => by
   obtain ⟨j, hj, hjl, rfl⟩ := kAt_mem hx
   exact hq ⟨j, hjl⟩ (by rw [h1, mem_dnF]; show _ ≤ j; omega)
  refine ⟨kAt K y.1, ?_, rfl⟩
  have hK : K = K.take y.1 ++ ([kAt K y.1] ++ K.drop (y.1 + 1)) := by
   rw [← List.append_assoc, ← take_k y.2, List.take_append_drop]
  generalize y.1 = i at *
  generalize kAt K i = x at *
  generalize K.take i = K1 at *
  generalize K.drop (i + 1) = K2 at *
  rw [hK]
  simp only [List.reverse_append, List.find?_append, List.reverse_cons, List.reverse_nil, List.nil_append]
  rw [show K2.reverse.find? T = none from List.find?_eq_none.2 fun x hx => by rw [hn x (List.mem_reverse.1 hx)]; simp]
  simp [hy]
set_option maxRecDepth 100000 in
set_option maxHeartbeats 4000000 in
theorem choose_any {P : Nat → Prop} (v : Value) (r o : ByteArray) (D : DeskD) (w : World) (hD : DeskR P w v D) (hl : D.ks.length ≤ 10000) (hc : D.cs.length ≤ 10000) (ha : ∀ k, k < D.cs.length → (cAt D.cs k).away.length ≤ 100000) :
  Calls Try.prog 36 #[v, .string r, .string o] w (RetB (.int .i64 (chI D.ks (talL D.ks D.cs r o) r o)) w) := by
 have HDL := Lib.hid (hD.mono (Q := fun b => b < w.heap.size) (fun b hb _ => hb))
 obtain ⟨A, ca, B, cb, rfl, h1, h2⟩ := hD
 obtain ⟨C, K⟩ := D
 have HCS := Lib.hid h1
 have HKS := Lib.hid h2
 have HA := Lib.hid ha
 simp only at hl hc
 clear h1 h2 ha
 refine (callsIn_wide (n := 3)).1 ?_
 refine callsIn_of_wp_marks Try.func36 rfl trivial ?_ rfl
 simp only [Try.ntmps36, List.size_toArray, List.length_cons, List.length_nil, Nat.reduceAdd, Nat.reduceSub, Array.replicate_succ, Array.replicate_zero, List.push_toArray, List.append_toArray, List.nil_append, List.cons_append]
 refine wpIn_wide.2 ?_
 go_wp2_with fail
 refine gen_world fun wh hwh => ?_
 have HB := Lib.hid (show ChB w wh w.heap.size (.slice A C.length ca) (.slice B K.length cb) r o from by rw [hwh]; exact ChB.new _ _ _ _ _ _)
 have HT := Lib.hid (show BoxE wh (w.heap.size + 1 + 1 + 1 + 1) (.slice none 0 0) 82 from by rw [hwh]; exact BoxE.new _ _ (by simp))
 clear hwh
 generalize hbx : w.heap.size = bx at *
 have HBX := Lib.hid hbx
 clear hbx
 go_loopw [15] (fun i wr => ∃ (k : Nat) (v7 : Value), k ≤ C.length ∧ i = .int .i64 k ∧ ElOwn ET 85 wr (bx + 1 + 1 + 1 + 1 + 1) v7 (talL K (C.take k) r o) ∧ BoxE wr (bx + 1 + 1 + 1 + 1) v7 82 ∧ Below (bx + 1 + 1 + 1 + 1) wh wr) (fun i _ => C.length - (intOf i).toNat)
 case atStart => exact ⟨0, _, Nat.zero_le _, rfl, ElOwn.nil _ _ _ _, HT.out, Below.refl _ _⟩
 case round =>
  obtain ⟨k, v7, hk, rfl, how, hb7, hbr⟩ := hrel
  have HOW := Lib.hid how
  have HB7 := Lib.hid hb7
  have HBR := Lib.hid hbr
  have HR := Lib.hid (HB.out.keep hbr)
  have l7 := hb7.lt
  have c4 := HR.out.r.cell
  have c5 := HR.out.o.cell
  have l4 := HR.out.r.lt
  have l5 := HR.out.o.lt
  clear how hb7 hbr
  by_cases hlt : k < C.length
  ·
   obtain ⟨b, off, x, rfl, hbl, -, e0, e1, e2, hx⟩ := (HCS.out.keep (Kpt.below (show Below w.heap.size w wr from by rw [HBX.out]; exact HR.out.b))).elem hlt
   have hk0 : (0 : Int) ≤ (k : Int) := by omega
   have hkl : (k : Int) < (C.length : Int) := by omega
   have HTY := Lib.hid (talL_yes (K := K) (r := r) (o := o) hlt)
   have HTN := Lib.hid (talL_no (K := K) (r := r) (o := o) hlt)
   have hal := HA.out k hlt
   have HTL := Lib.hid (show (talL K (C.take k) r o).length ≤ 10000 from Nat.le_trans (talL_len _ _ _ _) (by rw [List.length_take]; omega))
   obtain ⟨xi, xo, xA, xn, xc⟩ := x
   generalize cAt C k = d at *
   have q1 : xi = d.id := hx.id
   have q2 : xo = d.o := hx.o
   have q3 : xn = d.away.length := hx.n
   have HAW := Lib.hid (show ElP ES P wr xA xc d.away from hx.away)
   subst q1 q2 q3
   clear hx
   simp only at e0 e1 e2 hal
   have HAL := Lib.hid hal
   clear hal
   cases hro : d.o.toList == o.toList with
   | false =>
    have HN := Lib.hid (HTN.out (by unfold canB; rw [show eqS d.o o = false from hro, Bool.and_false]))
    go_wp2_with fail
    go_roundw
    case rel =>
     refine ⟨k + 1, v7, by omega, by go_num, ?_, HB7.out.below (below_alloc _ _), HBR.out.trans ((below_alloc _ _).mono (by omega))⟩
     rw [HN.out]
     exact HOW.out.below (below_alloc _ _)
    case measure => simp [intOf]; omega
   | true =>
    have HRO := Lib.hid hro
    go_wp2_with fail
    refine gen_calls fun w1 hw1 => ?_
    have HB1 := Lib.hid (show Below wr.heap.size wr w1 from by rw [hw1]; exact below_alloc _ _)
    have HX1 := Lib.hid (show w1.heap[wr.heap.size]? = some (.cells #[.int .i64 d.id, .string d.o, .slice xA d.away.length xc] 45 (0, 0)) from by rw [hw1]; exact heap_alloc_new _ _)
    have hs1 : wr.heap.size + 1 ≤ w1.heap.size := by rw [hw1]; simp
    clear hw1
    refine ret_pure (contains_str r xA d.away xc w1 (HAW.out.below HB1.out) HAL.out) ?_
    cases hhs : hasS d.away r with
    | true =>
     have HN := Lib.hid (HTN.out (by unfold canB; rw [hhs]; rfl))
     clear hhs
     go_wp2_with fail
     go_roundw
     case rel =>
      refine ⟨k + 1, v7, by omega, by go_num, ?_, HB7.out.below HB1.out, HBR.out.trans (HB1.out.mono (by omega))⟩
      rw [HN.out]
      exact HOW.out.below HB1.out
     case measure => simp [intOf]; omega
    | false =>
     have HN := Lib.hid (HTY.out (by unfold canB; rw [hhs, show eqS d.o o = true from HRO.out]; rfl))
     clear hhs
     have HOB : ∀ b, v7.ownBlock = some b → bx + 1 + 1 + 1 + 1 + 1 ≤ b ∧ b < wr.heap.size := fun b hb => World.ownsRow.lt HOW.out b hb
     have HR1 := Lib.hid (HR.out.keep (HB1.out.mono (by omega)))
     have HOB := Lib.hid HOB
     have HDC := Lib.hid (fun V Ld W (h : ChS w1 (bx + 1 + 1 + 1 + 1) (bx + 1 + 1 + 1 + 1 + 1) v7 (talL K (C.take k) r o) (talD K d.id) V Ld W) => HR1.out.d.keep (w' := W) (h.bl.block _ (by omega)))
     have HXC := Lib.hid (fun V Ld W (h : ChS w1 (bx + 1 + 1 + 1 + 1) (bx + 1 + 1 + 1 + 1 + 1) v7 (talL K (C.take k) r o) (talD K d.id) V Ld W) => show W.cell? ⟨wr.heap.size, 0, none⟩ = some (.int .i64 d.id) from by rw [cell_of_row W wr.heap.size 0 _ _ (0, 0) ((h.kp _ (by omega) (by omega) (fun e => by have := (HOB.out _ e).2; omega)).trans HX1.out)]; rfl)
     have HDR := Lib.hid (fun V Ld W (h : ChS w1 (bx + 1 + 1 + 1 + 1) (bx + 1 + 1 + 1 + 1 + 1) v7 (talL K (C.take k) r o) (talD K d.id) V Ld W) => HDL.out.keep (w' := W) (Kpt.belowB (HR1.out.b.trans (h.bl.mono (by omega))) (fun _ hb => hb)))
     go_wp2_with fail
     refine wp_region_J2 (GI (chPL bx wr.heap.size (some ⟨b, off, none⟩) B ca cb C K v7 d) (ChS w1 (bx + 1 + 1 + 1 + 1) (bx + 1 + 1 + 1 + 1 + 1) v7 (talL K (C.take k) r o) (talD K d.id))) (by kernel_rfl) (by kernel_rfl) (by kernel_rfl) ?_ ?_ ?_
     case refine_1 => exact fun V => GI.start (ChS.start (by omega) (by omega) (HOW.out.below HB1.out) (HB7.out.below HB1.out))
     case refine_2 =>
      refine .cons (fun V Ld a W hLi hpre hR hI KK hK => ?_) ?_
      ·
       have o7 := (hR.old 7 (by kernel_rfl)).trans (show _ = Value.pointer (some ⟨bx + 1 + 1 + 1 + 1, 0, none⟩) from rfl)
       have c0 := cell_tal (hI.st.c7 (hI.st.l70 hLi))
       exact J_load rfl _ (.tmp 7) rfl (by rw [o7]; go_simp) (hK _ _ (hI.put0 0 rfl rfl (hI.st.mv _ (by decide) (Below.refl _ _))))
      refine .cons (fun V Ld a W hLi hpre hR hI KK hK => ?_) ?_
      ·
       have o3 := (hR.old 3 (by kernel_rfl)).trans (show _ = Value.pointer (some ⟨bx, 0, none⟩) from rfl)
       have d0 := (HDC.out _ _ _ hI.st).c0
       have d1 := (HDC.out _ _ _ hI.st).c1
       exact J_load rfl _ (.tmp 3) rfl (by rw [o3]; go_simp) (hK _ _ (hI.put0 1 rfl rfl (hI.st.mv _ (by decide) (Below.refl _ _))))
      refine .cons (fun V Ld a W hLi hpre hR hI KK hK => ?_) ?_
      ·
       have o9 := (hR.old 9 (by kernel_rfl)).trans (show _ = Value.pointer (some ⟨wr.heap.size, 0, none⟩) from rfl)
       exact J_fieldAddr rfl _ (.tmp 9) 0 rfl (by rw [o9]; go_simp) (hK _ _ (hI.put0 2 rfl rfl (hI.st.mv _ (by decide) (Below.refl _ _))))
      refine .cons (fun V Ld a W hLi hpre hR hI KK hK => ?_) ?_
      ·
       have f2 := hI.ef hR hpre 2 rfl rfl rfl (by kernel_rfl)
       have e0 := HXC.out _ _ _ hI.st
       exact J_load rfl _ (.tmp 32) rfl (by rw [f2]; go_simp) (hK _ _ (hI.put0 3 rfl rfl (hI.st.mv _ (by decide) (Below.refl _ _))))
      refine .cons (fun V Ld a W hLi hpre hR hI KK hK => ?_) ?_
      ·
       have f1 := hI.ef hR hpre 1 rfl rfl rfl (by kernel_rfl)
       have f3 := hI.ef hR hpre 3 rfl rfl rfl (by kernel_rfl)
       refine J_call rfl _ _ _ rfl enter_count (by simp only [List.map_toArray, List.map_cons, List.map_nil, f1, f3]) (count_any (P := fun b => b < bx) _ d.id ⟨C, K⟩ W (HDR.out _ _ _ hI.st) (by simp only; omega)) ?_
       rintro e w' ⟨rfl, hb⟩
       exact ⟨_, rfl, hK _ _ (hI.put trivial 4 rfl rfl (hI.st.mv 4 (by decide) hb))⟩
      refine .cons (fun V Ld a W hLi hpre hR hI KK hK => ?_) ?_
      ·
       have f4 := hI.ef hR hpre 4 rfl rfl rfl (by kernel_rfl)
       exact J_buildSlice rfl _ 1 _ rfl (by simp only [List.map_toArray, List.map_cons, List.map_nil, f4]; exact bs_tal W (talD K d.id)) (hK _ _ (hI.put trivial 5 rfl trivial hI.st.o5))
      refine .cons (fun V Ld a W hLi hpre hR hI KK hK => ?_) ?_
      ·
       have p0 := pm hpre 0 (by kernel_rfl)
       have f0 := hI.ef hR hpre 0 rfl rfl rfl (by kernel_rfl)
       have p5 := pm hpre 5 (by kernel_rfl)
       obtain ⟨g, e1, e2, e3⟩ := hI.st.v5 p5 hLi
       refine J_app_tal W rfl (.tmp 30) (.tmp 35) rfl (bx + 1 + 1 + 1 + 1 + 1) v7 (talL K (C.take k) r o) (talD K d.id) g f0 ((hR.ev 5 rfl rfl p5).trans e1) e2 (hI.st.ow hLi) (by have := HTL.out; omega) (by have := hI.st.lt; have := hI.st.bl.size; omega) ?_
       exact fun g' cap w' ho hg hat => hK _ _ (hI.put trivial 6 rfl trivial (hI.st.o6 hLi p0 ho hg))
      refine .cons (fun V Ld a W hLi hpre hR hI KK hK => ?_) trivial
      ·
       have o7 := (hR.old 7 (by kernel_rfl)).trans (show _ = Value.pointer (some ⟨bx + 1 + 1 + 1 + 1, 0, none⟩) from rfl)
       have p6 := pm hpre 6 (by kernel_rfl)
       have c7 := hI.st.c7 hLi
       exact J_store rfl _ (.tmp 7) (.tmp 36) rfl (by rw [o7, hR.ev 6 rfl rfl p6]; exact st_tal c7 (chs_sl (hI.st.v6 p6))) (hK _ _ (hI.put trivial 7 rfl trivial (hI.st.o7 p6 hLi)))
     case refine_3 =>
      intro V Ld w2 hLd hI
      have p6 := hLd 6 (by decide)
      have HO2 := Lib.hid (hI.st.v6 p6)
      have H72 := Lib.hid (show BoxE w2 (bx + 1 + 1 + 1 + 1) (V 6) 82 from (hI.st.d7 (hLd 7 (by decide))).2)
      have HBL := Lib.hid hI.st.bl
      clear hI hLd p6
      simp only [finL, putL, Act.put, Nat.reduceAdd]
      generalize V 6 = u6 at *
      generalize V 0 = q0
      generalize V 1 = q1
      generalize V 2 = q2
      generalize V 3 = q3
      generalize V 4 = q4
      generalize V 5 = q5
      generalize V 7 = q7
      clear V
      simp only [List.setIfInBounds_toArray, List.set_cons_succ, List.set_cons_zero]
      go_wp2_with fail
      go_roundw
      case rel =>
       refine ⟨k + 1, u6, by omega, by go_num, ?_, H72.out, HBR.out.trans ((HB1.out.mono (by omega)).trans HBL.out)⟩
       rw [HN.out]
       exact HO2.out
      case measure => simp [intOf]; omega
  ·
   obtain rfl : C.length = k := by omega
   have hkl : ¬ (C.length : Int) < (C.length : Int) := by omega
   have HL := Lib.hid (show ElOwn ET 85 wr (bx + 1 + 1 + 1 + 1 + 1) v7 (talL K C r o) from by have := HOW.out; rw [List.take_length] at this; exact this)
   have HLL := Lib.hid (talL_len K C r o)
   generalize hL : talL K C r o = L at *
   have HLE := Lib.hid hL
   clear hL
   obtain ⟨A7, cp7, rfl, hP7⟩ := HL.out.toP
   have HP7 := Lib.hid hP7
   clear hP7
   have c7 := HB7.out.cell
   have c6 := HR.out.z.cell
   have f6 := HR.out.z.fz
   have l6 := HR.out.z.lt
   have d1 := HR.out.d.c1
   have ld := HR.out.d.lt
   by_cases h0 : L.length = 0
   ·
    have t0 : ((L.length : Int) == 0) = true := by simp [h0]
    have HZ := Lib.hid h0
    clear h0
    go_wp2_with fail
    refine ⟨.int .i64 0, ?_, by unfold chI; rw [if_pos HZ.out], by rw [HBX.out]; exact below_set HR.out.b ⟨bx + 1 + 1 + 1, 0, none⟩ _ (by show bx ≤ bx + 1 + 1 + 1; omega)⟩
    have hc5 : (wr.setCell ⟨bx + 1 + 1 + 1, 0, none⟩ (.int .i64 0)).cell? ⟨bx + 1 + 1 + 1, 0, none⟩ = some (.int .i64 0) := World.cell?_setCell_same' _ _ _ (by rw [c6]; rfl)
    simp [results, Try.f36, go_sem, hc5]
   ·
    have t0 : ((L.length : Int) == 0) = false := beq_eq_false_iff_ne.2 (by omega)
    have HZ := Lib.hid h0
    clear h0
    go_wp2_with fail
    refine (callsIn_wide.1 (back_in Fence.wide 3 trivial rfl _ _ _ _)).mono ?_
    rintro e w' ⟨rfl, rfl⟩
    go_wp2_with fail
    have HKP := Lib.hid (((HKS.out.keep (Kpt.below (show Below w.heap.size w wr from by rw [HBX.out]; exact HR.out.b))).mono (Q := fun b => b < wr.heap.size + 1) (fun b hb _ => by omega)).below (below_alloc wr (.cells #[.slice B K.length cb] 28)))
    have bS := Boxed.new wr 28 (.slice B K.length cb)
    have hwe : (wr.alloc (.cells #[.slice B K.length cb] 28)).heap.size = wr.heap.size + 1 := by simp
    have HBE := Lib.hid (below_alloc wr (.cells #[.slice B K.length cb] 28))
    refine (wpIn_wide (n := 3)).1 ?_
    refine wpIn_rangeFunc_ownH rfl (by omega) (gf := 65) (lb := #[.pointer (some ⟨wr.heap.size, 0, none⟩)]) rfl trivial (enters_of Try.func65 (by kernel_rfl) rfl)
     (back_stops Fence.wide _ trivial rfl (by omega) wr.heap.size (wr.heap.size + 1) B K cb (by omega) (wr.alloc (.cells #[.slice B K.length cb] 28)) bS.lt (by simp) bS.cell HKP.out) KpB.trans (KpB.turn (by simp) bS.lt) (Below.refl _ _) (fun _ => rfl)
     (fun pre W => AllN K (hitK r o) pre ∧ Below (wr.heap.size + 1) (wr.alloc (.cells #[.slice B K.length cb] 28)) W)
     (fun c pre W => ((∃ i, HitN K (hitK r o) pre i ∧ ((c = .ret ∧ L.any (isTal i) = true ∧ W.cell? ⟨bx + 1 + 1 + 1, 0, none⟩ = some (.int .i64 i)) ∨ (c = .exit 2 ∧ L.any (isTal i) = false))) ∧ (c = .exit 2 → Below (wr.heap.size + 1) (wr.alloc (.cells #[.slice B K.length cb] 28)) W)) ∧ Below bx wr W)
     (OwnFrom.and (Own.from (fun s A B row hs hg hr => hs) _) (ownFrom_below (by simp) (by simp)))
     (fun c => OwnFrom.and (OwnFrom.and (Own.from (fun s A B row hs hg hr => by
      obtain ⟨i, h1, h2⟩ := hs
      rcases h2 with ⟨e, h3, h4⟩ | h2
      ·
       exact ⟨i, h1, .inl ⟨e, h3, cell_kept h4 hg hr⟩⟩
      ·
       exact ⟨i, h1, .inr h2⟩) _) (fun s A B row hs hg hr e => ownFrom_below (β := Unit) (by simp) (by simp) () A B row (hs e) hg hr)) (ownFrom_below (by omega) (by simp; omega)))
     ⟨fun y hy => (by cases hy), Below.refl _ _⟩
     (fun y a' W => ∃ g z8 z9 z10 z12 z13 z14 z15 z16 z17 z18 z19 z20 z21 z22 z23 z24 z25 z26 z27 z28 z29 z30 z31 z32 z33 z34 z35 z36 z37 z38 z39 z40 z41 z42 z43 z44 z45 z46 z47 z48 z49 z50 z51 z52 z53 z54 z55 z56 z57 z58 z59 z60 z61 z62 z63, a' = { tmps := #[.agg #[.slice A C.length ca, .slice B K.length cb], .string r, .string o, .pointer (some ⟨bx, 0, none⟩), .pointer (some ⟨bx + 1, 0, none⟩), .pointer (some ⟨bx + 1 + 1, 0, none⟩), .pointer (some ⟨bx + 1 + 1 + 1, 0, none⟩), .pointer (some ⟨bx + 1 + 1 + 1 + 1, 0, none⟩), z8, z9, z10, .pointer (some ⟨g, 0, none⟩), z12, z13, z14, z15, z16, z17, z18, z19, z20, z21, z22, z23, z24, z25, z26, z27, z28, z29, z30, z31, z32, z33, z34, z35, z36, z37, z38, z39, z40, z41, z42, z43, z44, z45, z46, z47, z48, z49, z50, z51, z52, z53, z54, z55, z56, z57, z58, z59, z60, z61, z62, z63], defers := [] } ∧ CaseC W g (kAt K y.1) ∧ wr.heap.size < g)
     (fun x a' s A B row hs hg hr => by
      have hk : ∀ g, CaseC A g (kAt K x.1) → CaseC B g (kAt K x.1) := fun g h1 => (hg.block g h1.lt (fun e => by obtain ⟨-, o, ho, hc⟩ := hr g e.symm; unfold CaseC at h1; rw [h1] at ho; cases ho; cases hc)).trans h1
      obtain ⟨g, z8, z9, z10, z12, z13, z14, z15, z16, z17, z18, z19, z20, z21, z22, z23, z24, z25, z26, z27, z28, z29, z30, z31, z32, z33, z34, z35, z36, z37, z38, z39, z40, z41, z42, z43, z44, z45, z46, z47, z48, z49, z50, z51, z52, z53, z54, z55, z56, z57, z58, z59, z60, z61, z62, z63, e, h1, h2⟩ := hs
      exact ⟨g, z8, z9, z10, z12, z13, z14, z15, z16, z17, z18, z19, z20, z21, z22, z23, z24, z25, z26, z27, z28, z29, z30, z31, z32, z33, z34, z35, z36, z37, z38, z39, z40, z41, z42, z43, z44, z45, z46, z47, z48, z49, z50, z51, z52, z53, z54, z55, z56, z57, z58, z59, z60, z61, z62, z63, e, hk g h1, h2⟩) ?assign ?body ?done ?stop
    case assign =>
     intro l pre y W KK hi hK
     have HI := Lib.hid hi
     have hsz : wr.heap.size + 1 ≤ W.heap.size := by have := hi.2.size; rw [hwe] at this; exact this
     clear hi
     gi_wp2
     refine hK _ _ ⟨by simp, fun k o _ hk _ => (Below.heap_alloc W _ k (Array.getElem?_eq_some_iff.1 hk).1).trans hk⟩ ⟨(below_alloc W _).mono hsz, (below_alloc W _).block _ (by omega)⟩ ⟨HI.out.1, HI.out.2.trans ((below_alloc W _).mono hsz)⟩ ⟨W.heap.size, _, _, _, _, _, _, _, _, _, _, _, _, _, _, _, _, _, _, _, _, _, _, _, _, _, _, _, _, _, _, _, _, _, _, _, _, _, _, _, _, _, _, _, _, _, _, _, _, _, _, _, _, _, _, _, rfl, CaseC.new _ rfl, by omega⟩
    case body =>
     rintro l pre y a' W hl ⟨rr, hloop⟩ hi ⟨g, z8, z9, z10, z12, z13, z14, z15, z16, z17, z18, z19, z20, z21, z22, z23, z24, z25, z26, z27, z28, z29, z30, z31, z32, z33, z34, z35, z36, z37, z38, z39, z40, z41, z42, z43, z44, z45, z46, z47, z48, z49, z50, z51, z52, z53, z54, z55, z56, z57, z58, z59, z60, z61, z62, z63, rfl, hC, hg⟩ _
     have hsz : wr.heap.size + 1 ≤ W.heap.size := by have := hi.2.size; rw [hwe] at this; exact this
     have hbW : Below wr.heap.size wr W := HBE.out.trans (hi.2.mono (by omega))
     have HBW := Lib.hid hbW
     have HRW := Lib.hid (HR.out.keep (hbW.mono (by omega)))
     have HB7W := Lib.hid (HB7.out.below hbW)
     have HI := Lib.hid hi.2
     have HAN := Lib.hid (AllN.snoc (T := hitK r o) (y := y) hi.1)
     have HHN := Lib.hid (fun h => show HitN K (hitK r o) (pre ++ [y]) (kAt K y.1).c from ⟨pre, y, rfl, hi.1, h, rfl⟩)
     clear hi hbW
     generalize kAt K y.1 = x at *
     have k4 := HRW.out.r.cell
     have k5 := HRW.out.o.cell
     have k6 := HRW.out.z.cell
     have kf6 := HRW.out.z.fz
     have k7 := HB7W.out.cell
     have x0 := hC.c0
     have x1 := hC.c1
     have x2 := hC.c2
     have gl := hC.lt
     have m4 := HRW.out.r.lt
     have m5 := HRW.out.o.lt
     have m7 := HB7W.out.lt
     clear c4 c5 c6 c7 f6
     cases q1 : x.r.toList == r.toList with
     | false =>
      have HX := Lib.hid (show hitK r o x = false from by unfold hitK; rw [show eqS x.r r = false from q1, Bool.false_and])
      have q1' : (x.r.toList != r.toList) = true := by simp [bne, q1]
      gi_wp2
      exact ⟨KeepsFrom.refl _ _, KpB.refl _ _ _, HAN.out HX.out, HI.out⟩
     | true =>
      have q1' : (x.r.toList != r.toList) = false := by simp [bne, q1]
      have HQ1 := Lib.hid q1
      cases q2 : x.o.toList == o.toList with
      | false =>
       have HX := Lib.hid (show hitK r o x = false from by unfold hitK; rw [show eqS x.o o = false from q2, Bool.and_false])
       have q2' : (x.o.toList != o.toList) = true := by simp [bne, q2]
       gi_wp2
       exact ⟨KeepsFrom.refl _ _, KpB.refl _ _ _, HAN.out HX.out, HI.out⟩
      | true =>
       have q2' : (x.o.toList != o.toList) = false := by simp [bne, q2]
       have HQ2 := Lib.hid q2
       have HCT := Lib.hid (anyT2_any 55 (.pointer (some ⟨g, 0, none⟩)) (isTal x.c) A7 L cp7 W (HP7.out.below HBW.out) (by have := HLL.out; omega) enter_ch1 (fun W' d hb => ch1_any g x.c W' d (Nat.lt_of_lt_of_le gl hb.size) ((hb.cell gl).trans x0)))
       cases hq : L.any (isTal x.c) with
       | false =>
        have HX := Lib.hid (show hitK r o x = true from by unfold hitK; rw [show eqS x.r r = true from HQ1.out, show eqS x.o o = true from HQ2.out, Bool.and_self])
        have HQ := Lib.hid hq
        rw [hq] at HCT
        clear hq
        gi_wp2_with (refine ⟨trivial, ?_⟩; gi_at_call 54; refine (CallsIn.inRound l (callsIn_wide.2 HCT.out)).mono ?_; rintro e w' ⟨rfl, hb⟩)
        exact ⟨⟨hb.size, fun k o' _ hk _ => (hb.block k (Array.getElem?_eq_some_iff.1 hk).1).trans hk⟩, ⟨⟨x.c, HHN.out HX.out, .inr ⟨rfl, HQ.out⟩⟩, fun _ => HI.out.trans (hb.mono hsz)⟩, (HBW.out.mono (by omega)).trans (hb.mono (by omega))⟩
       | true =>
        have HQ := Lib.hid hq
        have HX := Lib.hid (show hitK r o x = true from by unfold hitK; rw [show eqS x.r r = true from HQ1.out, show eqS x.o o = true from HQ2.out, Bool.and_self])
        rw [hq] at HCT
        clear hq
        gi_wp2_with (refine ⟨trivial, ?_⟩; gi_at_call 54; refine (CallsIn.inRound l (callsIn_wide.2 HCT.out)).mono ?_; rintro e w' ⟨rfl, hb⟩; have y0 := (hb.cell gl).trans x0; have y6 := (hb.cell HRW.out.z.lt).trans k6; have yf := (HRW.out.z.below hb).fz)
        refine ⟨⟨by have := hb.size; simp [World.setCell]; omega, fun k o' hk1 hk _ => (Below.heap_setCell w' _ _ k (by show k ≠ bx + 1 + 1 + 1; omega)).trans ((hb.block k (Array.getElem?_eq_some_iff.1 hk).1).trans hk)⟩, ⟨⟨x.c, HHN.out HX.out, .inl ⟨rfl, HQ.out, World.cell?_setCell_same' _ _ _ (by rw [y6]; rfl)⟩⟩, fun e => (by cases e)⟩, ?_⟩
        exact below_set ((HBW.out.mono (by omega)).trans (hb.mono (by omega))) _ _ (by show bx ≤ bx + 1 + 1 + 1; omega)
    case done =>
     rintro D' ys W hD rfl ⟨hz, hi⟩ hK
     have HE := Lib.hid (show (minK L (L.length - 1)).id = chI K L r o from by unfold chI; rw [if_neg HZ.out, hz.done])
     clear hz
     have hsz : wr.heap.size + 1 ≤ W.heap.size := by have := hi.size; rw [hwe] at this; exact this
     have hbW : Below wr.heap.size wr W := HBE.out.trans (hi.mono (by omega))
     have HBW := Lib.hid hbW
     have HRW := Lib.hid (HR.out.keep (hbW.mono (by omega)))
     have HB7W := Lib.hid (HB7.out.below hbW)
     clear hi hbW
     have k6 := HRW.out.z.cell
     have kf6 := HRW.out.z.fz
     have k7 := HB7W.out.cell
     have m6 := HRW.out.z.lt
     have m7 := HB7W.out.lt
     have HMI := Lib.hid (minFunc_any A7 L cp7 W (HP7.out.below HBW.out) (by have := HLL.out; omega) (by have := HZ.out; omega))
     clear c4 c5 c6 c7 f6
     generalize minK L (L.length - 1) = mm at *
     go_wp2_with fail
     refine HMI.out.mono ?_
     rintro e w' ⟨rfl, hb⟩
     have y6 := (hb.cell m6).trans k6
     have yf := (HRW.out.z.below hb).fz
     have y7 := HRW.out.z.below hb |>.lt
     go_wp2_with fail
     refine put_as (u := Value.int IntKind.i64 mm.id) ?_ rfl
     go_wp2_with fail
     have hD' : bx + 1 + 1 + 1 < D' := by rw [hwe] at hD; omega
     have hK' : (w'.setCell ⟨bx + 1 + 1 + 1, 0, none⟩ (.int .i64 mm.id)).heap[D']? = some (.deferred (some [])) := (Below.heap_setCell w' _ _ D' (by show D' ≠ bx + 1 + 1 + 1; omega)).trans ((hb.block D' (Array.getElem?_eq_some_iff.1 hK).1).trans hK)
     refine ⟨by simp, .inl ⟨_, _, rfl, run_takeDeferred hK', ?_⟩⟩
     have hc5 := cell_kept (World.cell?_setCell_same' w' ⟨bx + 1 + 1 + 1, 0, none⟩ (.int .i64 mm.id) (by rw [y6]; rfl)) (grownBy_putObj' _ D' (.deferred none)) (fun r e => by cases e; exact ⟨_, hK', rfl⟩)
     refine ⟨.int .i64 mm.id, ?_, by rw [HE.out], ?_⟩
     ·
      simp [results, Try.f36, go_sem, hc5]
     ·
      have h1 : Below bx w (w'.setCell ⟨bx + 1 + 1 + 1, 0, none⟩ (.int .i64 mm.id)) := below_set (HRW.out.b.trans (hb.mono (by omega))) _ _ (by show bx ≤ bx + 1 + 1 + 1; omega)
      rw [HBX.out]
      exact h1.trans (belowK_b (w := wr) (n₀ := bx) (by omega) _ D' _ _ (by rw [hwe] at hD; omega) hK' rfl rfl)
    case stop =>
     rintro D' c pre W hD hpre ⟨⟨⟨i, hit, hor⟩, hi⟩, hB⟩ hK
     obtain ⟨x, hx, rfl⟩ := hit.stop hpre
     clear hit hpre
     rcases hor with ⟨rfl, hq, hcc⟩ | ⟨rfl, hq⟩
     ·
      have HE := Lib.hid (show x.c = chI K L r o from by unfold chI; rw [if_neg HZ.out, hx]; simp only; rw [if_pos hq])
      clear hi hq hx
      gi_wp2
      refine ⟨by simp, .inl ⟨_, _, rfl, run_takeDeferred hK, ?_⟩⟩
      have hc5 := cell_kept hcc (grownBy_putObj' _ D' (.deferred none)) (fun r e => by cases e; exact ⟨_, hK, rfl⟩)
      refine ⟨.int .i64 x.c, ?_, by rw [HE.out], ?_⟩
      ·
       simp [results, Try.f36, go_sem, hc5]
      ·
       rw [HBX.out]
       exact (HR.out.b.trans hB).trans (belowK_b (w := wr) (n₀ := bx) (by omega) _ D' _ _ (by rw [hwe] at hD; omega) hK rfl rfl)
     ·
      have HE := Lib.hid (show (minK L (L.length - 1)).id = chI K L r o from by unfold chI; rw [if_neg HZ.out, hx]; simp only; rw [if_neg (by rw [hq]; simp)])
      replace hi := hi (by first | rfl | trivial)
      clear hq hB hx
      gi_wp2
      have hsz : wr.heap.size + 1 ≤ W.heap.size := by have := hi.size; rw [hwe] at this; exact this
      have hbW : Below wr.heap.size wr W := HBE.out.trans (hi.mono (by omega))
      have HBW := Lib.hid hbW
      have HRW := Lib.hid (HR.out.keep (hbW.mono (by omega)))
      have HB7W := Lib.hid (HB7.out.below hbW)
      clear hi hbW
      have k6 := HRW.out.z.cell
      have kf6 := HRW.out.z.fz
      have k7 := HB7W.out.cell
      have m6 := HRW.out.z.lt
      have m7 := HB7W.out.lt
      have HMI := Lib.hid (minFunc_any A7 L cp7 W (HP7.out.below HBW.out) (by have := HLL.out; omega) (by have := HZ.out; omega))
      clear c4 c5 c6 c7 f6
      generalize minK L (L.length - 1) = mm at *
      go_wp2_with fail
      refine HMI.out.mono ?_
      rintro e w' ⟨rfl, hb⟩
      have y6 := (hb.cell m6).trans k6
      have yf := (HRW.out.z.below hb).fz
      have y7 := HRW.out.z.below hb |>.lt
      go_wp2_with fail
      refine put_as (u := Value.int IntKind.i64 mm.id) ?_ rfl
      go_wp2_with fail
      have hD' : bx + 1 + 1 + 1 < D' := by rw [hwe] at hD; omega
      have hK' : (w'.setCell ⟨bx + 1 + 1 + 1, 0, none⟩ (.int .i64 mm.id)).heap[D']? = some (.deferred (some [])) := (Below.heap_setCell w' _ _ D' (by show D' ≠ bx + 1 + 1 + 1; omega)).trans ((hb.block D' (Array.getElem?_eq_some_iff.1 hK).1).trans hK)
      refine ⟨by simp, .inl ⟨_, _, rfl, run_takeDeferred hK', ?_⟩⟩
      have hc5 := cell_kept (World.cell?_setCell_same' w' ⟨bx + 1 + 1 + 1, 0, none⟩ (.int .i64 mm.id) (by rw [y6]; rfl)) (grownBy_putObj' _ D' (.deferred none)) (fun r e => by cases e; exact ⟨_, hK', rfl⟩)
      refine ⟨.int .i64 mm.id, ?_, by rw [HE.out], ?_⟩
      ·
       simp [results, Try.f36, go_sem, hc5]
      ·
       have h1 : Below bx w (w'.setCell ⟨bx + 1 + 1 + 1, 0, none⟩ (.int .i64 mm.id)) := below_set (HRW.out.b.trans (hb.mono (by omega))) _ _ (by show bx ≤ bx + 1 + 1 + 1; omega)
       rw [HBX.out]
       exact h1.trans (belowK_b (w := wr) (n₀ := bx) (by omega) _ D' _ _ (by rw [hwe] at hD; omega) hK' rfl rfl)
end Go.Proofs.Ytjckpammcgeloaa
namespace Go.Proofs.Ytjckpammcgeloaa
open Go.RowKit

def lastT (K : List CaseD) : Int := if K.length = 0 then 0 else (kAt K (K.length - 1)).t
theorem last_any {P : Nat → Prop} (v : Value) (D : DeskD) (w : World) (hD : DeskR P w v D) (hl : D.ks.length ≤ 100000) :
    Calls Try.prog 31 #[v] w (RetB (.int .i64 (lastT D.ks)) w) := by
  obtain ⟨A, ca, B, cb, rfl, h1, h2⟩ := hD
  obtain ⟨C, K⟩ := D
  have HKS := Lib.hid h2
  simp only at hl
  clear h1 h2
  go_enter Try.func31, Try.ntmps31
  by_cases h0 : K.length = 0
  · have HV := Lib.hid (show (0 : Int) = lastT K from by unfold lastT; rw [if_pos h0])
    have t0 : ¬ (0 : Int) < (K.length : Int) := by omega
    clear h0
    go_wp2_with fail
    go_ret
    exact RetB.int HV.out (below_alloc _ _)
  · obtain ⟨m, hm⟩ : ∃ m, m = K.length - 1 := ⟨_, rfl⟩
    have hml : m < K.length := by omega
    have HM := Lib.hid (show (K.length : Int) - 1 = (m : Int) by omega)
    have HV := Lib.hid (show (kAt K m).t = lastT K from by unfold lastT; rw [if_neg h0, hm])
    obtain ⟨b, off, rfl, hbl, -, c0, c1, c2, c3, c4⟩ := HKS.out.case hml
    have t0 : (0 : Int) < (K.length : Int) := by omega
    have i0 : (0 : Int) ≤ (m : Int) := by omega
    have i1 : (m : Int) < (K.length : Int) := by omega
    have hk := HM.out
    clear h0 hm
    generalize kAt K m = x at *
    go_wp2_with fail
    go_ret
    exact RetB.int HV.out (below_alloc _ _)
end Go.Proofs.Ytjckpammcgeloaa
namespace Go.Proofs.Ytjckpammcgeloaa
open Go.RowKit

theorem results_desk3 {fn : Func} {t u s : Tmp} (h : fn.results = #[.cell t 30, .tmp u, .tmp s]) (tmps : Array Value) (w : World) (g : Nat) (hp : tmps.getD t undef = .pointer (some ⟨g, 0, none⟩)) {a b : Value} (hX : DeskCell w g a b) :
    (results fn tmps).run Try.prog w = .ok (.tuple #[.agg #[a, b], tmps.getD u undef, tmps.getD s undef]) w := by
  have hp' : tmps[t]?.getD undef = .pointer (some ⟨g, 0, none⟩) := by simpa using hp
  have hr := run_loadVar_row (P := Try.prog) w g 30 30 _ (0, 0) _ hX Try.underlying30 rfl (by kernel_rfl)
  simp [results, h, hp', asAddr, hr]
theorem DeskO.set {w : World} {base : Nat} {u v : Value} {D : DeskD} (h : DeskO w base u v D) (p : Addr) (y : Value) (hp : p.block < base) : DeskO (w.setCell p y) base u v D := by
  obtain ⟨X, h1, h2⟩ := h.cs
  exact ⟨⟨X, h1.kept (fun k hk => Below.heap_setCell w p y k (by have := (World.ownsRow.lt h1 k hk).1; omega)), h2.keep (Kpt.set w p y (fun b hb => by have := hb.1; omega))⟩, h.ks.kept (fun k hk => Below.heap_setCell w p y k (by have := (World.ownsRow.lt h.ks k hk).1; omega)), h.ne⟩
theorem DeskO.forms {w : World} {base : Nat} {u v : Value} {D : DeskD} (h : DeskO w base u v D) : ∃ A ca B cb, u = .slice A D.cs.length ca ∧ v = .slice B D.ks.length cb := by
  obtain ⟨A, ca, B, cb, e, -⟩ := h.read
  injection e with e
  injection e with e
  injection e with e1 e
  injection e with e2 e
  exact ⟨A, ca, B, cb, e1, e2⟩
theorem DeskO.push {w w' : World} {base : Nat} {u v : Value} {D : DeskD} {K' : List CaseD} {g n cap : Nat} (h : DeskO w base u v D) (ho : ElOwn EK 37 w' base (.slice (some ⟨g, 0, none⟩) n cap) K') (hg : w.grownBy w' v.ownBlock) (hor : v.ownBlock = some g ∨ g = w.heap.size + 1) :
    DeskO w' base u (.slice (some ⟨g, 0, none⟩) n cap) ⟨D.cs, K'⟩ := by
  obtain ⟨X, h1, h2⟩ := h.cs
  have hu : ∀ b, u.ownBlock = some b → b < w.heap.size ∧ v.ownBlock ≠ some b := fun b hb => ⟨(World.ownsRow.lt h1 b hb).2, h.ne b hb⟩
  refine ⟨⟨X, h1.kept (fun k hk => hg.block k (hu k hk).1 (fun e => (hu k hk).2 e.symm)), ?_⟩, ho, fun b hb e => ?_⟩
  · have q := (h2.mono (Q := fun b => base ≤ b ∧ u.ownBlock ≠ some b ∧ v.ownBlock ≠ some b ∧ g ≠ b) (fun b hl hb => ⟨hb.1, hb.2.1, hb.2.2, fun e => by
      rcases hor with h0 | h0
      · exact hb.2.2 (by rw [h0, e])
      · omega⟩)).keep (w' := w') (Kpt.grown hg (fun b hb => hb.2.2.1))
    exact q.mono (fun b _ hb => ⟨hb.1, hb.2.1, fun e => hb.2.2.2 (by injection e)⟩)
  · have e : some g = some b := e
    injection e with e
    rcases hor with h0 | h0
    · exact (hu b hb).2 (by rw [h0, e])
    · have := (hu b hb).1; omega
def chD (D : DeskD) (r o : ByteArray) : Int := chI D.ks (talL D.ks D.cs r o) r o
def giveE (D : DeskD) (r o : ByteArray) (t : Int) : Int :=
  if chkE D ≠ 0 then 1 else if lngB r = true then 4 else if inI t 0 1099511627776 = false ∨ t < lastT D.ks then 16 else if chD D r o = 0 then 50 else if 256 ≤ D.ks.length then 3 else 0
def giveI (D : DeskD) (r o : ByteArray) (t : Int) : Int := if giveE D r o t = 0 then chD D r o else 0
def giveD (D : DeskD) (r o : ByteArray) (t : Int) : DeskD := if giveE D r o t = 0 then ⟨D.cs, D.ks ++ [⟨chD D r o, r, o, t, false⟩]⟩ else D
def GiveP (D : DeskD) (r o : ByteArray) (t : Int) (w : World) (e : Ending) (w' : World) : Prop :=
  ∃ u x, e = .returned (.tuple #[.agg #[u, x], .int .i64 (giveI D r o t), .int .i64 (giveE D r o t)]) ∧ DeskO w' w.heap.size u x (giveD D r o t) ∧ Below w.heap.size w w'
structure GvS (w wk : World) (bx : Nat) (u x : Value) (D : DeskD) : Prop where
  b : Below bx w wk
  d : DeskCell wk bx u x
  z : DeskCell wk (bx + 1) (.slice none 0 0) (.slice none 0 0)
  o : DeskO wk (bx + 1 + 1) u x D
section
variable {w wk w' : World} {bx : Nat} {u x : Value} {D : DeskD}
theorem GvS.below (h : GvS w wk bx u x D) (hb : Below wk.heap.size wk w') : GvS w w' bx u x D := by
  have := h.d.lt
  exact ⟨h.b.trans (hb.mono (by omega)), h.d.below hb, h.z.below hb, h.o.below hb⟩
theorem GvS.cell (h : GvS w wk bx u x D) : DeskCell ((wk.setCell ⟨bx + 1, 0, none⟩ u).setCell ⟨bx + 1, 1, none⟩ x) (bx + 1) u x := (h.z.set0 u).set1 x
theorem GvS.bad (h : GvS w wk bx u x D) (hx : bx = w.heap.size) {r o : ByteArray} {t e : Int} (he : giveE D r o t = e) (hne : e ≠ 0) :
    GiveP D r o t w (.returned (.tuple #[.agg #[u, x], .int .i64 0, .int .i64 e])) ((wk.setCell ⟨bx + 1, 0, none⟩ u).setCell ⟨bx + 1, 1, none⟩ x) := by
  subst hx
  refine ⟨u, x, ?_, ?_, below_set (below_set h.b ⟨w.heap.size + 1, 0, none⟩ _ (by show w.heap.size ≤ w.heap.size + 1; omega)) ⟨w.heap.size + 1, 1, none⟩ _ (by show w.heap.size ≤ w.heap.size + 1; omega)⟩
  · unfold giveI; rw [he, if_neg hne]
  · unfold giveD; rw [he, if_neg hne]
    exact ((h.o.set ⟨w.heap.size + 1, 0, none⟩ u (by show w.heap.size + 1 < _; omega)).set ⟨w.heap.size + 1, 1, none⟩ x (by show w.heap.size + 1 < _; omega)).lower (by omega)
end
set_option maxRecDepth 100000 in
set_option maxHeartbeats 4000000 in
theorem give_any {P : Nat → Prop} (v : Value) (r o : ByteArray) (t : Int) (D : DeskD) (w : World) (hD : DeskR P w v D) (sD : DeskS D) (hr : r.size ≤ maxLen) :
    Calls Try.prog 16 #[v, .string r, .string o, .int .i64 t] w (GiveP D r o t w) := by
  have HD := Lib.hid hD
  have HS := Lib.hid sD
  have HR := Lib.hid hr
  obtain ⟨A0, ca0, B0, cb0, rfl, h1, h2⟩ := hD
  clear h1 h2 sD hr
  go_enter Try.func16, Try.ntmps16
  go_wp2_with fail
  refine gen_calls fun w1 hw1 => ?_
  have HB1 := Lib.hid (show Below w.heap.size w w1 from by rw [hw1]; exact bl_alloc _ (below_alloc _ _))
  have D1 := Lib.hid (show DeskCell w1 w.heap.size (.slice A0 D.cs.length ca0) (.slice B0 D.ks.length cb0) from by rw [hw1]; exact (DeskCell.new _ _ rfl).below (below_alloc _ _))
  have Z1 := Lib.hid (show DeskCell w1 (w.heap.size + 1) (.slice none 0 0) (.slice none 0 0) from by rw [hw1]; exact DeskCell.new _ _ (by simp))
  clear hw1
  generalize hbx : w.heap.size = bx at *
  have HBX := Lib.hid hbx
  refine (copied_any _ D w1 (HD.out.below (show Below w.heap.size w w1 from by rw [hbx]; exact HB1.out)) HS.out).mono ?_
  rintro e w2 ⟨u, x, rfl, hO, hb2⟩
  clear hbx
  obtain ⟨A, ca, B, cb, rfl, rfl⟩ := hO.forms
  have HO := Lib.hid hO
  have d2 := D1.out.below hb2
  have HD2 := Lib.hid d2
  have HZ2 := Lib.hid (Z1.out.below hb2)
  have HB2 := Lib.hid (HB1.out.trans (hb2.mono (by have := D1.out.lt; omega)))
  have c0 := d2.c0
  have c1 := d2.c1
  have f0 := d2.fz 0
  have f1 := d2.fz 1
  have l0 := d2.lt
  have z1 := Z1.out.lt
  clear hO d2 hb2
  go_wp2_with fail
  refine gen_calls fun w3 hw3 => ?_
  have HG := Lib.hid (show GvS w w3 bx (.slice A D.cs.length ca) (.slice B D.ks.length cb) D from by
    rw [hw3]
    exact ⟨below_set (below_set HB2.out ⟨bx, 0, none⟩ _ (Nat.le_refl _)) ⟨bx, 1, none⟩ _ (Nat.le_refl _), (HD2.out.set0 _).set1 _, (HZ2.out.other ⟨bx, 0, none⟩ _ (by show bx + 1 ≠ bx; omega)).other ⟨bx, 1, none⟩ _ (by show bx + 1 ≠ bx; omega), ((HO.out.set ⟨bx, 0, none⟩ _ (by show bx < _; omega)).set ⟨bx, 1, none⟩ _ (by show bx < _; omega)).lower (by omega)⟩)
  clear hw3 c0 c1 f0 f1 l0 z1
  refine ret_below (check_any _ D w3 HG.out.o.read HS.out) fun w4 hb4 => ?_
  replace HG := Lib.hid (HG.out.below hb4)
  clear hb4
  have c0 := HG.out.d.c0
  have c1 := HG.out.d.c1
  have z0 := HG.out.z.c0
  have z1 := HG.out.z.c1
  have g0 := HG.out.z.fz 0
  have g1 := HG.out.z.fz 1
  have l0 := HG.out.d.lt
  have l1 := HG.out.z.lt
  by_cases hc : chkB D = true
  · have hv : chkE D = 0 := by unfold chkE; rw [if_pos hc]
    rw [hv]
    have HV := Lib.hid hv
    clear hc hv
    go_wp2_with fail
    refine ret_pure (long_any r w4 HR.out) ?_
    cases hlr : lngB r with
    | true =>
      have HE := Lib.hid (show giveE D r o t = 4 from by unfold giveE; rw [if_neg (by rw [HV.out]; decide), if_pos hlr])
      clear hlr
      go_wp2_with fail
      refine bodyPost_ret (results_desk3 rfl _ _ (bx + 1) rfl HG.out.cell) rfl ?_
      exact HG.out.bad HBX.out.symm HE.out (by decide)
    | false =>
      have HE4 := Lib.hid hlr
      clear hlr
      go_wp2_with fail
      refine ret_pure (in_any t 0 1099511627776 w4) ?_
      cases hin : inI t 0 1099511627776 with
      | false =>
        have HE := Lib.hid (show giveE D r o t = 16 from by unfold giveE; rw [if_neg (by rw [HV.out]; decide), if_neg (by rw [HE4.out]; decide), if_pos (.inl hin)])
        clear hin
        go_wp2_with fail
        refine bodyPost_ret (results_desk3 rfl _ _ (bx + 1) rfl HG.out.cell) rfl ?_
        exact HG.out.bad HBX.out.symm HE.out (by decide)
      | true =>
        have HIN := Lib.hid hin
        clear hin
        go_wp2_with fail
        refine ret_below (last_any _ D w4 HG.out.o.read (by have := HS.out.lk; omega)) fun w5 hb5 => ?_
        replace HG := Lib.hid (HG.out.below hb5)
        clear hb5 c0 c1 z0 z1 g0 g1 l0 l1
        have c0 := HG.out.d.c0
        have c1 := HG.out.d.c1
        have z0 := HG.out.z.c0
        have z1 := HG.out.z.c1
        have g0 := HG.out.z.fz 0
        have g1 := HG.out.z.fz 1
        have l0 := HG.out.d.lt
        have l1 := HG.out.z.lt
        by_cases hlt : t < lastT D.ks
        · have HE := Lib.hid (show giveE D r o t = 16 from by unfold giveE; rw [if_neg (by rw [HV.out]; decide), if_neg (by rw [HE4.out]; decide), if_pos (.inr hlt)])
          generalize lastT D.ks = lt at *
          go_wp2_with fail
          refine bodyPost_ret (results_desk3 rfl _ _ (bx + 1) rfl HG.out.cell) rfl ?_
          exact HG.out.bad HBX.out.symm HE.out (by decide)
        · have HLT := Lib.hid hlt
          have HE3 := Lib.hid (show ¬ (inI t 0 1099511627776 = false ∨ t < lastT D.ks) from by rw [HIN.out]; rintro (h | h); cases h; exact hlt h)
          generalize hle : lastT D.ks = lt at *
          have HLE := Lib.hid hle
          clear hle
          go_wp2_with fail
          clear hlt
          refine ret_below (choose_any _ r o D w5 HG.out.o.read (by have := HS.out.lk; omega) (by have := HS.out.lc; omega) (fun k hk => by have := (HS.out.co k hk).2.1; omega)) fun w6 hb6 => ?_
          replace HG := Lib.hid (HG.out.below hb6)
          clear hb6 c0 c1 z0 z1 g0 g1 l0 l1
          have c0 := HG.out.d.c0
          have c1 := HG.out.d.c1
          have z0 := HG.out.z.c0
          have z1 := HG.out.z.c1
          have g0 := HG.out.z.fz 0
          have g1 := HG.out.z.fz 1
          have l0 := HG.out.d.lt
          have l1 := HG.out.z.lt
          have HCH := Lib.hid (show chI D.ks (talL D.ks D.cs r o) r o = chD D r o from rfl)
          generalize chI D.ks (talL D.ks D.cs r o) r o = ch at *
          by_cases hch : ch = 0
          · have HE := Lib.hid (show giveE D r o t = 50 from by unfold giveE; rw [if_neg (by rw [HV.out]; decide), if_neg (by rw [HE4.out]; decide), if_neg (by rw [HLE.out]; exact HE3.out), if_pos (by rw [← HCH.out]; exact hch)])
            subst hch
            go_wp2_with fail
            refine bodyPost_ret (results_desk3 rfl _ _ (bx + 1) rfl HG.out.cell) rfl ?_
            exact HG.out.bad HBX.out.symm HE.out (by decide)
          · have hcz : (ch == 0) = false := beq_eq_false_iff_ne.2 hch
            have HCZ := Lib.hid hch
            clear hch
            by_cases hk : (256 : Int) ≤ (D.ks.length : Int)
            · have HE := Lib.hid (show giveE D r o t = 3 from by unfold giveE; rw [if_neg (by rw [HV.out]; decide), if_neg (by rw [HE4.out]; decide), if_neg (by rw [HLE.out]; exact HE3.out), if_neg (by rw [← HCH.out]; exact HCZ.out), if_pos (by omega)])
              go_wp2_with fail
              refine bodyPost_ret (results_desk3 rfl _ _ (bx + 1) rfl HG.out.cell) rfl ?_
              exact HG.out.bad HBX.out.symm HE.out (by decide)
            · have HE := Lib.hid (show giveE D r o t = 0 from by unfold giveE; rw [if_neg (by rw [HV.out]; decide), if_neg (by rw [HE4.out]; decide), if_neg (by rw [HLE.out]; exact HE3.out), if_neg (by rw [← HCH.out]; exact HCZ.out), if_neg (by omega)])
              have HOK := Lib.hid HG.out.o.ks
              have HLK := Lib.hid HS.out.lk
              have f0 := HG.out.d.fz 0
              have f1 := HG.out.d.fz 1
              go_wp2_with (first | (at_builtin; refine app_elL EK Try.underlying28 info_case rfl rfl (.tmp 49) (.tmp 55) rfl (base := bx + 1 + 1) (w := w6) (v := .slice B D.ks.length cb) (S := D.ks) (⟨ch, r, o, t, false⟩ : CaseD) rfl rfl HOK.out (w6.heap.size) rfl rfl (by have := HLK.out; omega) (by omega) (by omega) ?_; intro g cap w7 ho7 hg7 hor7; have HO7 := Lib.hid ho7; have HG7 := Lib.hid hg7; have HR7 := Lib.hid hor7; have e7 : ∀ b, b < bx + 1 + 1 → w7.heap[b]? = w6.heap[b]? := (fun b hb => hg7.block b (by omega) (fun e => by have := (World.ownsRow.lt HOK.out b e.symm).1; omega)); have D7 := Lib.hid (HG.out.d.keep (e7 bx (by omega))); have Z7 := Lib.hid (HG.out.z.keep (e7 (bx + 1) (by omega))); have y0 := D7.out.c0; have y1 := D7.out.c1; have yf := D7.out.fz 1; have yl := D7.out.lt; have y2 := Z7.out.c0; have y3 := Z7.out.c1; have yg := Z7.out.fz 0; have yh := Z7.out.fz 1; have yk := Z7.out.lt; clear ho7 hg7 hor7 e7))
              refine bodyPost_ret (results_desk3 rfl _ _ (bx + 1) rfl (((Z7.out.other ⟨bx, 1, none⟩ _ (by show bx + 1 ≠ bx; omega)).set0 _).set1 _)) rfl ?_
              have hb6 : Below bx w w6 := HG.out.b
              have hb7 : Below bx w w7 := hb6.trans ((Below.refl bx w6).grown HG7.out (by omega) (fun j hj => by have := (World.ownsRow.lt HOK.out j hj).1; omega))
              refine ⟨.slice A D.cs.length ca, .slice (some ⟨g, 0, none⟩) (D.ks.length + 1) cap, ?_, ?_, ?_⟩
              · show Ending.returned (.tuple #[.agg #[_, _], .int .i64 ch, .int .i64 0]) = _
                unfold giveI
                rw [HE.out, if_pos rfl, ← HCH.out]
              · unfold giveD
                rw [HE.out, if_pos rfl, ← HCH.out, HBX.out]
                exact (((((HG.out.o.push HO7.out HG7.out HR7.out).set ⟨bx, 1, none⟩ _ (by show bx < _; omega)).set ⟨bx + 1, 0, none⟩ _ (by show bx + 1 < _; omega)).set ⟨bx + 1, 1, none⟩ _ (by show bx + 1 < _; omega))).lower (by omega)
              · rw [HBX.out]
                exact below_set (below_set (below_set hb7 ⟨bx, 1, none⟩ _ (Nat.le_refl _)) ⟨bx + 1, 0, none⟩ _ (by show bx ≤ bx + 1; omega)) ⟨bx + 1, 1, none⟩ _ (by show bx ≤ bx + 1; omega)
  · have hv : chkE D = 1 := by unfold chkE; rw [if_neg hc]
    rw [hv]
    have HE := Lib.hid (show giveE D r o t = 1 from by unfold giveE; rw [hv]; rfl)
    clear hc hv
    go_wp2_with fail
    refine bodyPost_ret (results_desk3 rfl _ _ (bx + 1) rfl HG.out.cell) rfl ?_
    exact HG.out.bad HBX.out.symm HE.out (by decide)
end Go.Proofs.Ytjckpammcgeloaa
namespace Go.Proofs.Ytjckpammcgeloaa
open Go.RowKit

theorem ixCs_at {T : CaseD → Bool} {S : List CaseD} {k : Nat} (hk : k < S.length) (h : T (kAt S k) = true) (hp : ∀ j, j < k → T (kAt S j) = false) : ixK T S = k := ixK_at (⟨0, ⟨#[]⟩, ⟨#[]⟩, 0, false⟩ : CaseD) hk h hp
theorem ixCs_no {T : CaseD → Bool} {S : List CaseD} (h : ∀ j, j < S.length → T (kAt S j) = false) : ixK T S = -1 := ixK_no (⟨0, ⟨#[]⟩, ⟨#[]⟩, 0, false⟩ : CaseD) h
theorem idxK2_any {P : Nat → Prop} (n : Nat) (u : Value) (T : CaseD → Bool) (A : Option Addr) (C : List CaseD) (c : Nat) (w : World) (hC : ElP EK P w A c C) (hl : C.length ≤ 100000) (hn : ∀ args w, (callFunc n args).run Try.prog w = .ok (.enter n args) w)
    (hT : ∀ (W : World) (d : CaseD), Below w.heap.size w W → Calls Try.prog n #[caseV d, u] W (RetB (.bool (T d)) W)) :
    Calls Try.prog 32 #[.slice A C.length c, .func (.func n) #[] #[u]] w (RetB (.int .i64 (ixK T C)) w) := by
  have HC := Lib.hid hC
  have HT := Lib.hid hT
  clear hC hT
  go_enter Try.func32, Try.ntmps32
  go_wp2_with fail
  go_loopw [8] (fun i wr => ∃ k : Nat, k ≤ C.length ∧ i = .int .i64 k ∧ (∀ j, j < k → T (kAt C j) = false) ∧ Below w.heap.size w wr) (fun i _ => C.length - (intOf i).toNat)
  case atStart => exact ⟨0, Nat.zero_le _, rfl, fun j hj => absurd hj (by omega), Below.refl _ _⟩
  case round =>
    obtain ⟨k, hk, rfl, hpre, hbr⟩ := hrel
    have HP := Lib.hid hpre
    clear hpre
    by_cases hlt : k < C.length
    · obtain ⟨b, off, rfl, hbl, -, c0, c1, c2, c3, c4⟩ := (HC.out.below hbr).case hlt
      have hk0 : (0 : Int) ≤ (k : Int) := by omega
      have hkl : (k : Int) < (C.length : Int) := by omega
      go_wp2_with fail
      refine ret_below (HT.out _ (kAt C k) hbr) fun w2 hb2 => ?_
      generalize hx : T (kAt C k) = tv at *
      have HX := Lib.hid hx
      clear hx c0 c1 c2 c3 c4
      have hbw := below_trans hbr hb2
      cases tv with
      | true =>
        have HV := Lib.hid (ixCs_at hlt HX.out HP.out)
        go_wp2_with fail
        go_ret
        exact RetB.int HV.out.symm hbw
      | false =>
        go_wp2_with fail
        go_roundw
        case rel =>
          refine ⟨k + 1, by omega, by go_num, fun j hj => ?_, hbw⟩
          by_cases hjk : j = k
          · subst hjk; exact HX.out
          · exact HP.out j (by omega)
        case measure => simp [intOf]; omega
    · have HV := Lib.hid (ixCs_no (T := T) (fun j hj => HP.out j (by omega)))
      go_wp2_with fail
      go_ret
      exact RetB.int HV.out.symm hbr

theorem ixCs_cases (T : CaseD → Bool) (S : List CaseD) : (ixK T S = -1 ∧ ∀ j, j < S.length → T (kAt S j) = false) ∨ ∃ k : Nat, ixK T S = k ∧ k < S.length ∧ T (kAt S k) = true ∧ ∀ j, j < k → T (kAt S j) = false := by
  rcases ixK_cases (⟨0, ⟨#[]⟩, ⟨#[]⟩, 0, false⟩ : CaseD) T S with ⟨h1, -, h2⟩ | ⟨k, h1, h2, h3, -, h4⟩
  · exact .inl ⟨h1, h2⟩
  · exact .inr ⟨k, h1, h2, h3, h4⟩

theorem ack1_any (p : Nat) (id : Int) (w : World) (d : CaseD) (hp : p < w.heap.size) (hc : w.cell? ⟨p, 0, none⟩ = some (.int .i64 id)) :
    Calls Try.prog 33 #[caseV d, .pointer (some ⟨p, 0, none⟩)] w (RetB (.bool (unC id d)) w) := by
  cases q : d.c == id with
  | false =>
    have HV := Lib.hid (show false = unC id d from by unfold unC; rw [q]; rfl)
    go_enter Try.func33, Try.ntmps33
    go_wp2_with fail
    go_ret
    exact RetB.bool HV.out (below_alloc _ _)
  | true =>
    have HV := Lib.hid (show (!d.s) = unC id d from by unfold unC; rw [q]; rfl)
    go_enter Try.func33, Try.ntmps33
    go_wp2_with fail
    go_ret
    exact RetB.bool HV.out (below_alloc _ _)
theorem enter_ack1 (args : Array Value) (w : World) : (callFunc 33 args).run Try.prog w = .ok (.enter 33 args) w :=
  Go.MuLone.run_callFunc_enter Try.func33 (by kernel_rfl) rfl args w
/-- The first case of a counsellor that was not seen. -/
def unI (D : DeskD) (id : Int) : Int := ixK (unC id) D.ks
end Go.Proofs.Ytjckpammcgeloaa
namespace Go.Proofs.Ytjckpammcgeloaa
open Go.RowKit

theorem zero_cells {α : Type} (E : El α) (x : α) (n : Nat) : (Builtin.zeroCells (E.f x).toArray n).toList = E.flat (List.replicate n x) := by
  apply List.ext_getElem?
  intro i
  have hs : (E.f x).toArray.size = E.n := by rw [List.size_toArray, E.len]
  by_cases hi : i < n * E.n
  · have hd : i / E.n < n := (Nat.div_lt_iff_lt_mul E.pos).2 hi
    have hr : i % E.n < E.n := Nat.mod_lt _ E.pos
    have hjj : i / E.n * E.n + i % E.n = i := by rw [Nat.mul_comm]; exact Nat.div_add_mod i E.n
    have h1 := E.flat_at (List.replicate n x) (i / E.n) x (by simp [hd]) (i % E.n) hr
    rw [hjj] at h1
    rw [h1]
    have hl : i % E.n < (E.f x).length := by rw [E.len]; exact hr
    simp only [Builtin.zeroCells, hs]
    simp [hi, hl]
  · rw [List.getElem?_eq_none (by simp only [Builtin.zeroCells, hs]; simp; omega), List.getElem?_eq_none (by rw [E.flat_len]; simp; omega)]
theorem take_flat {α : Type} {E : El α} {cur : List Value} {L : List α} {i : Nat} (h : cur.take (L.length * E.n) = E.flat L) (hi : i ≤ L.length) : cur.take (i * E.n) = E.flat (L.take i) := by
  have hl : (L.take i).length = i := by simp; omega
  have hm : i * E.n ≤ L.length * E.n := Nat.mul_le_mul_right _ hi
  have e : E.flat L = E.flat (L.take i) ++ E.flat (L.drop i) := by rw [← El.flat_append, List.take_append_drop]
  have h3 : List.take (i * E.n) (List.take (L.length * E.n) cur) = List.take (i * E.n) cur := by rw [List.take_take]; congr 1; omega
  rw [← h3, h, e, List.take_append_of_le_length (by rw [E.flat_len, hl]; exact Nat.le_refl _), List.take_of_length_le (by rw [E.flat_len, hl]; exact Nat.le_refl _)]
/-- The row's end is cleared. -/
theorem clear_el {α : Type} (E : El α) {ty sty : TypeId} {z : Value} (x0 : α) (ht : Try.prog.underlying sty = some (.slice ty)) (hz : ∀ w, (zeroValue ty).run Try.prog w = .ok z w) (hzc : z.cells = (E.f x0).toArray)
    {w : World} {base g c : Nat} {L : List α} (h : ElOwn E ty w base (.slice (some ⟨g, 0, none⟩) L.length c) L) (i : Nat) (hi : i < L.length) (c' n : Nat) (hn : n = L.length - i) :
    ∃ w', (∀ t, (Builtin.clear_ #[sty] t #[.slice (some ⟨g, i * E.n, none⟩) n c']).run Try.prog w = .ok (.tuple #[]) w') ∧ ElOwn E ty w' base (.slice (some ⟨g, 0, none⟩) i c) (L.take i) ∧ w.grownBy w' (some g) := by
  subst hn
  rcases h.2 with ⟨h0, _⟩ | ⟨g', cap, cur, hv, hg, hh, hnc, hcm, hcs, htk⟩
  · cases h0
  · injection hv with h1 h2 h3
    injection h1 with h1
    injection h1 with h1
    subst h1; subst h3
    have hlen : (E.flat (List.replicate (L.length - i) x0)).length = (L.length - i) * E.n := by rw [E.flat_len, List.length_replicate]
    have hcs' : cur.size = c * E.n := hcs
    have hmul : i * E.n + (L.length - i) * E.n ≤ c * E.n := by rw [← Nat.add_mul]; exact Nat.mul_le_mul_right _ (by omega)
    have hst := run_storeCells_at (P := Try.prog) g (i * E.n) ty (E.flat (List.replicate (L.length - i) x0)) 0 cur w hh (by rw [hlen]; omega) (E.flat_one _)
    obtain ⟨cs, hcs2⟩ : ∃ cs : Array Value, cs = (cur.toList.take (i * E.n + 0) ++ E.flat (List.replicate (L.length - i) x0) ++ cur.toList.drop (i * E.n + 0 + (E.flat (List.replicate (L.length - i) x0)).length)).toArray := ⟨_, rfl⟩
    rw [← hcs2] at hst
    refine ⟨w.setRow g cs, fun t => ?_, ?_, ⟨rfl, rfl, rfl, by simp [World.setRow], fun k _ hne => setRow_other w g k cs (fun e => hne (by rw [e]))⟩⟩
    · clear hcs2
      obtain ⟨m, hm⟩ : ∃ m, L.length - i = m + 1 := ⟨L.length - i - 1, by omega⟩
      rw [hm] at hst ⊢
      have hzz := zero_cells E x0 (m + 1)
      simp only [Builtin.clear_]
      simp [run_underlying ht, hz, hzc, hzz, hst, Result.andThen]
    · have hl : (L.take i).length = i := by simp; omega
      have hti := take_flat (E := E) (i := i) htk (by omega)
      refine ⟨by rw [E.flat_len, hl], .inr ⟨g, c, cs, by rw [hl], hg, setRow_heap w g cur _ _ _ hh, by omega, hcm, ?_, ?_⟩⟩
      · rw [hcs2, List.size_toArray]; simp only [List.length_append, List.length_take, List.length_drop, hlen, Array.length_toList]; omega
      · rw [hcs2, Nat.add_zero, List.append_assoc, List.take_append_of_le_length (by rw [hl, List.length_take, Array.length_toList]; omega), List.take_take, hl, Nat.min_self, hti]
/-- append(s[:i], s[i+1:]...) where s is a row of the own: the rest moves down by one, and the last one stands twice. -/
theorem shift_el {α : Type} (E : El α) {ty sty : TypeId} {i0 : TypeInfo} (ht : Try.prog.underlying sty = some (.slice ty)) (hi0 : Try.prog.info? ty = some i0) (hz0 : i0.size = E.n)
    {w : World} {base g c : Nat} {L : List α} (h : ElOwn E ty w base (.slice (some ⟨g, 0, none⟩) L.length c) L) (i : Nat) (hi : i < L.length) (ad : Addr) (c' m : Nat) (hm : m = L.length - (i + 1)) (hsrc : m = 0 ∨ ad = ⟨g, (i + 1) * E.n, none⟩) :
    ∃ w' X, (∀ t, (Builtin.append_ #[sty, sty] t #[.slice (some ⟨g, 0, none⟩) i c, .slice (some ad) m c']).run Try.prog w = .ok (.slice (some ⟨g, 0, none⟩) (i + m) c) w') ∧ ElOwn E ty w' base (.slice (some ⟨g, 0, none⟩) L.length c) (L.eraseIdx i ++ [X]) ∧ w.grownBy w' (some g) := by
  subst hm
  rcases h.2 with ⟨h0, _⟩ | ⟨g', cap, cur, hv, hg, hh, hnc, hcm, hcs, htk⟩
  · cases h0
  · injection hv with h1 h2 h3
    injection h1 with h1
    injection h1 with h1
    subst h1; subst h3
    obtain ⟨S1, x, S2, hL, hS1⟩ : ∃ S1 x S2, L = S1 ++ x :: S2 ∧ S1.length = i := by
      refine ⟨L.take i, L[i], L.drop (i + 1), ?_, by simp; omega⟩
      rw [← List.drop_eq_getElem_cons hi, List.take_append_drop]
    obtain ⟨Y, X, hYX⟩ : ∃ Y X, x :: S2 = Y ++ [X] := by
      rcases List.eq_nil_or_concat (x :: S2) with h0 | ⟨Y, X, h0⟩
      · cases h0
      · exact ⟨Y, X, by rw [h0, List.concat_eq_append]⟩
    have hlL : L.length = i + 1 + S2.length := by rw [hL]; simp; omega
    have hm : L.length - (i + 1) = S2.length := by omega
    have hfl : (E.flat S2).length = S2.length * E.n := E.flat_len S2
    have hmul : i * E.n + S2.length * E.n + E.n ≤ c * E.n := by
      have : (i + S2.length + 1) * E.n ≤ c * E.n := Nat.mul_le_mul_right _ (by omega)
      rw [Nat.succ_mul, Nat.add_mul] at this; exact this
    have hcs' : cur.size = c * E.n := hcs
    have hst := run_storeCells_at (P := Try.prog) g (i * E.n) ty (E.flat S2) 0 cur w hh (by rw [hfl]; omega) (E.flat_one _)
    obtain ⟨cs, hcs2⟩ : ∃ cs : Array Value, cs = (cur.toList.take (i * E.n + 0) ++ E.flat S2 ++ cur.toList.drop (i * E.n + 0 + (E.flat S2).length)).toArray := ⟨_, rfl⟩
    rw [← hcs2] at hst
    have hA := (ElOwn.at_ h)
    obtain ⟨A, c2, e, hA, -⟩ := hA
    injection e with e1 e2 e3
    subst e1
    have hnews : ∀ j u, (E.flat S2)[j]? = some u → w.cell? (ad.add j) = some u := by
      rcases hsrc with h0 | h0
      · intro j u hu
        have : S2 = [] := List.eq_nil_of_length_eq_zero (by omega)
        subst this; simp [El.flat] at hu
      · subst h0
        refine ElAt.news (L := S2) (fun k y hk => ?_)
        have hk2 : L[i + 1 + k]? = some y := by rw [hL, List.getElem?_append_right (by omega), show i + 1 + k - S1.length = k + 1 by omega, List.getElem?_cons_succ]; exact hk
        obtain ⟨b, off, e, hb, hc⟩ := hA (i + 1 + k) y hk2
        injection e with e
        injection e with e1 e2
        subst e1; subst e2
        refine ⟨_, _, rfl, hb, fun j hj => ?_⟩
        have := hc j hj
        rw [show 0 + (i + 1 + k) * E.n + j = (i + 1) * E.n + k * E.n + j by rw [Nat.add_mul]; omega] at this
        exact this
    have hfc := run_firstCells_some (P := Try.prog) w E.n S2.length ad S2.length c' (E.flat S2) hfl hnews
    refine ⟨w.setRow g cs, X, fun t => ?_, ?_, ⟨rfl, rfl, rfl, by simp [World.setRow], fun k _ hne => setRow_other w g k cs (fun e => hne (by rw [e]))⟩⟩
    · clear hcs2
      rw [hm]
      have hroom : i + S2.length ≤ c := by omega
      simp [Builtin.append_, run_underlying ht, sizeOf, typeInfo, hi0, hz0, Builtin.lenOf, hroom, hfc, Addr.add_lit, hst]
    · have he : L.eraseIdx i ++ [X] = S1 ++ (S2 ++ [X]) := by
        rw [hL, List.eraseIdx_append_of_length_le (by omega), show i - S1.length = 0 by omega]
        simp
      have hl : (L.eraseIdx i ++ [X]).length = L.length := by rw [he, hL]; simp
      refine ⟨by rw [E.flat_len, hl], .inr ⟨g, c, cs, by rw [hl], hg, setRow_heap w g cur _ _ _ hh, by rw [hl]; exact hnc, hcm, ?_, ?_⟩⟩
      · rw [hcs2, List.size_toArray]; simp only [List.length_append, List.length_take, List.length_drop, hfl, Array.length_toList]; omega
      · have ht1 := take_flat (E := E) (i := i) htk (by omega)
        have hS : L.take i = S1 := by rw [hL, List.take_append_of_le_length (by omega), List.take_of_length_le (by omega)]
        rw [hS] at ht1
        obtain ⟨tl, htl⟩ : ∃ tl, cur.toList = E.flat L ++ tl := ⟨cur.toList.drop (L.length * E.n), by rw [← htk, List.take_append_drop]⟩
        have hYl : Y.length = S2.length := by have := congrArg List.length hYX; simp at this; omega
        have hflY : (E.flat (S1 ++ Y)).length = i * E.n + S2.length * E.n := by rw [E.flat_len, List.length_append, hS1, hYl, Nat.add_mul]
        have hdr : cur.toList.drop (i * E.n + S2.length * E.n) = E.f X ++ tl := by
          have e5 : E.flat L = E.flat (S1 ++ Y) ++ E.f X := by
            rw [hL, hYX, ← List.append_assoc, El.flat_append E (S1 ++ Y) [X]]
            simp [El.flat]
          rw [htl, e5, List.append_assoc, List.drop_append_of_le_length (by omega), List.drop_of_length_le (by omega), List.nil_append]
        rw [hcs2, hl, he]
        simp only [Nat.add_zero, hfl]
        rw [ht1, hdr, El.flat_append, El.flat_append]
        have e6 : E.flat [X] = E.f X := by simp [El.flat]
        rw [e6, ← List.append_assoc, ← List.append_assoc, List.take_append_of_le_length (by simp only [List.length_append, E.flat_len, E.len, hS1, hlL, Nat.add_mul]; omega), List.take_of_length_le (by simp only [List.length_append, E.flat_len, E.len, hS1, hlL, Nat.add_mul]; omega), List.append_assoc]

/-! ### What DeleteFunc keeps -/
theorem ElOwn.set5 {w : World} {base g n c : Nat} {L : List CaseD} (h : ElOwn EK 37 w base (.slice (some ⟨g, 0, none⟩) n c) L) {i : Nat} (hi : i < L.length) (d : CaseD) :
    ElOwn EK 37 (((((w.setCell ⟨g, i * 5, none⟩ (.int .i64 d.c)).setCell ⟨g, i * 5 + 1, none⟩ (.string d.r)).setCell ⟨g, i * 5 + 2, none⟩ (.string d.o)).setCell ⟨g, i * 5 + 3, none⟩ (.int .i64 d.t)).setCell ⟨g, i * 5 + 4, none⟩ (.bool d.s)) base (.slice (some ⟨g, 0, none⟩) n c) (L.set i d) := by
  obtain ⟨x, hx⟩ : ∃ x, L[i]? = some x := ⟨_, List.getElem?_eq_getElem hi⟩
  have s0 := h.set1 (j := 0) (y := (⟨d.c, x.r, x.o, x.t, x.s⟩ : CaseD)) hx (by show 0 < 5; omega) rfl
  have s1 := s0.set1 (x := (⟨d.c, x.r, x.o, x.t, x.s⟩ : CaseD)) (j := 1) (y := (⟨d.c, d.r, x.o, x.t, x.s⟩ : CaseD)) (by rw [List.getElem?_set_self hi]) (by show 1 < 5; omega) rfl
  have s2 := s1.set1 (x := (⟨d.c, d.r, x.o, x.t, x.s⟩ : CaseD)) (j := 2) (y := (⟨d.c, d.r, d.o, x.t, x.s⟩ : CaseD)) (by rw [List.getElem?_set_self (by simpa using hi)]) (by show 2 < 5; omega) rfl
  have s3 := s2.set1 (x := (⟨d.c, d.r, d.o, x.t, x.s⟩ : CaseD)) (j := 3) (y := (⟨d.c, d.r, d.o, d.t, x.s⟩ : CaseD)) (by rw [List.getElem?_set_self (by simpa using hi)]) (by show 3 < 5; omega) rfl
  have s4 := s3.set1 (x := (⟨d.c, d.r, d.o, d.t, x.s⟩ : CaseD)) (j := 4) (y := (⟨d.c, d.r, d.o, d.t, d.s⟩ : CaseD)) (by rw [List.getElem?_set_self (by simpa using hi)]) (by show 4 < 5; omega) rfl
  simp only [List.set_set] at s4
  exact s4
def kepK (T : CaseD → Bool) (S : List CaseD) (j : Nat) : List CaseD := (S.take j).filter fun y => !T y
theorem kepK_del {T : CaseD → Bool} {S : List CaseD} {j : Nat} (hj : j < S.length) (h : T (kAt S j) = true) : kepK T S (j + 1) = kepK T S j := by
  unfold kepK; rw [take_k hj, List.filter_append, List.filter_cons_of_neg (by rw [h]; simp)]; simp
theorem kepK_keep {T : CaseD → Bool} {S : List CaseD} {j : Nat} (hj : j < S.length) (h : T (kAt S j) = false) : kepK T S (j + 1) = kepK T S j ++ [kAt S j] := by
  unfold kepK; rw [take_k hj, List.filter_append, List.filter_cons_of_pos (by rw [h]; rfl)]; rfl
theorem kepK_all {T : CaseD → Bool} {S : List CaseD} : ∀ k, k ≤ S.length → (∀ j, j < k → T (kAt S j) = false) → kepK T S k = S.take k
  | 0, _, _ => by simp [kepK]
  | k + 1, hk, h => by
    rw [kepK_keep (by omega) (h k (by omega)), kepK_all k (by omega) (fun j hj => h j (by omega)), take_k (by omega)]
theorem kepK_end (T : CaseD → Bool) (S : List CaseD) : kepK T S S.length = S.filter fun y => !T y := by unfold kepK; rw [List.take_length]
/-- The loop of DeleteFunc, under way: i entries kept of the first j. -/
def DlK (T : CaseD → Bool) (S : List CaseD) (g c base : Nat) (w : World) (j i : Nat) (wr : World) : Prop :=
  ∃ L X, i = (kepK T S j).length ∧ L = kepK T S j ++ X ++ S.drop j ∧ 0 < X.length ∧ i + X.length = j ∧ L.length = S.length ∧ ElOwn EK 37 wr base (.slice (some ⟨g, 0, none⟩) S.length c) L ∧ w.grownBy wr (some g)
theorem kAt_mid {A X : List CaseD} {S : List CaseD} {j : Nat} (h : A.length + X.length = j) : kAt (A ++ X ++ S.drop j) j = kAt S j := by
  simp only [kAt, List.getD_eq_getElem?_getD]
  rw [List.getElem?_append_right (by simp; omega)]
  simp [show j - (A.length + X.length) = 0 by omega]
theorem drop_k {S : List CaseD} {j : Nat} (hj : j < S.length) : S.drop j = kAt S j :: S.drop (j + 1) := by
  have h1 := kAt_get hj
  rw [List.getElem?_eq_getElem hj] at h1
  injection h1 with h1
  rw [List.drop_eq_getElem_cons hj, h1]
theorem DlK.facts {T : CaseD → Bool} {S : List CaseD} {g c base : Nat} {w wr : World} {j i : Nat} (h : DlK T S g c base w j i wr) (hj : j < S.length) :
    g < wr.heap.size ∧ base ≤ g ∧ i < j ∧ (∀ k, k < 5 → wr.cell? ⟨g, j * 5 + k, none⟩ = (EK.f (kAt S j))[k]?) ∧ (∃ x, ∀ k, k < 5 → wr.cell? ⟨g, i * 5 + k, none⟩ = (EK.f x)[k]?) ∧ (∀ k, wr.frozen? ⟨g, k, none⟩ = false) ∧ w.grownBy wr (some g) := by
  obtain ⟨L, X, h1, h2, h3, h4, h5, h6, h7⟩ := h
  obtain ⟨a1, a2, a3, a5⟩ := h6.slot (kAt_get (show j < L.length by omega))
  obtain ⟨-, -, b3, -⟩ := h6.slot (kAt_get (show i < L.length by omega))
  have e : kAt L j = kAt S j := by rw [h2]; exact kAt_mid (by omega)
  rw [e] at a3
  exact ⟨a1, a2, by omega, fun k hk => a3 k hk, ⟨_, fun k hk => b3 k hk⟩, a5, h7⟩
theorem DlK.drop {T : CaseD → Bool} {S : List CaseD} {g c base : Nat} {w wr w' : World} {j i : Nat} (h : DlK T S g c base w j i wr) (hj : j < S.length) (hT : T (kAt S j) = true) (hb : Below wr.heap.size wr w') : DlK T S g c base w (j + 1) i w' := by
  obtain ⟨L, X, h1, h2, h3, h4, h5, h6, h7⟩ := h
  refine ⟨L, X ++ [kAt S j], by rw [kepK_del hj hT]; exact h1, ?_, by simp, by simp; omega, h5, h6.below hb, grown_trans h7 (grown_of_below hb)⟩
  rw [h2, kepK_del hj hT, drop_k hj]; simp
theorem grown_set5 {w w' : World} {g : Nat} (h : w.grownBy w' (some g)) (a0 a1 a2 a3 a4 : Nat) (v0 v1 v2 v3 v4 : Value) : w.grownBy (((((w'.setCell ⟨g, a0, none⟩ v0).setCell ⟨g, a1, none⟩ v1).setCell ⟨g, a2, none⟩ v2).setCell ⟨g, a3, none⟩ v3).setCell ⟨g, a4, none⟩ v4) (some g) := by
  have q : ∀ (W : World) (a : Nat) (v : Value), w.grownBy W (some g) → w.grownBy (W.setCell ⟨g, a, none⟩ v) (some g) := fun W a v hW => ⟨hW.os, hW.tape, hW.output, by simpa [World.setCell] using hW.size, fun k hk hne => (Below.heap_setCell _ _ _ k (fun e => hne (by rw [e]))).trans (hW.block k hk hne)⟩
  exact q _ _ _ (q _ _ _ (q _ _ _ (q _ _ _ (q _ _ _ h))))
theorem DlK.keep {T : CaseD → Bool} {S : List CaseD} {g c base : Nat} {w wr w' : World} {j i : Nat} (h : DlK T S g c base w j i wr) (hj : j < S.length) (hT : T (kAt S j) = false) (hb : Below wr.heap.size wr w') :
    DlK T S g c base w (j + 1) (i + 1) (((((w'.setCell ⟨g, i * 5, none⟩ (.int .i64 (kAt S j).c)).setCell ⟨g, i * 5 + 1, none⟩ (.string (kAt S j).r)).setCell ⟨g, i * 5 + 2, none⟩ (.string (kAt S j).o)).setCell ⟨g, i * 5 + 3, none⟩ (.int .i64 (kAt S j).t)).setCell ⟨g, i * 5 + 4, none⟩ (.bool (kAt S j).s)) := by
  obtain ⟨L, X, h1, h2, h3, h4, h5, h6, h7⟩ := h
  obtain ⟨x, X', rfl⟩ : ∃ x X', X = x :: X' := by
    cases X with
    | nil => simp at h3
    | cons x X' => exact ⟨x, X', rfl⟩
  have hi : i < L.length := by simp at h4; omega
  have e : L.set i (kAt S j) = kepK T S (j + 1) ++ (X' ++ [kAt S j]) ++ S.drop (j + 1) := by
    rw [h2, h1, kepK_keep hj hT, drop_k hj, List.append_assoc, List.set_append_right _ _ (Nat.le_refl _)]
    simp
  have hs := (h6.below hb).set5 hi (kAt S j)
  exact ⟨L.set i (kAt S j), X' ++ [kAt S j], by rw [kepK_keep hj hT]; simp [h1], e, by simp, by simp at h4 ⊢; omega, by simpa using h5, hs, grown_set5 (grown_trans h7 (grown_of_below hb)) _ _ _ _ _ _ _ _ _ _⟩
theorem DlK.start {T : CaseD → Bool} {S : List CaseD} {g c base : Nat} {w wr : World} {k : Nat} (hk : k < S.length) (hT : T (kAt S k) = true) (hall : ∀ j, j < k → T (kAt S j) = false) (hown : ElOwn EK 37 wr base (.slice (some ⟨g, 0, none⟩) S.length c) S) (hg : w.grownBy wr (some g)) :
    DlK T S g c base w (k + 1) k wr := by
  refine ⟨S, [kAt S k], ?_, ?_, by simp, by simp, rfl, hown, hg⟩
  · rw [kepK_del hk hT, kepK_all k (by omega) hall]; simp; omega
  · rw [kepK_del hk hT, kepK_all k (by omega) hall, List.append_assoc, List.singleton_append, ← drop_k hk, List.take_append_drop]
theorem filterK_none {T : CaseD → Bool} {S : List CaseD} (h : ∀ j, j < S.length → T (kAt S j) = false) : S = S.filter fun y => !T y := by
  rw [← kepK_end, kepK_all S.length (Nat.le_refl _) h, List.take_length]
end Go.Proofs.Ytjckpammcgeloaa
namespace Go.Proofs.Ytjckpammcgeloaa
open Go.RowKit

theorem zeroK_run (w : World) : (zeroValue 37).run Try.prog w = .ok (.agg #[.int .i64 0, .string ⟨#[]⟩, .string ⟨#[]⟩, .int .i64 0, .bool false]) w := by kernel_rfl
/-- The row of what is kept; the block g alone has turned. -/
def DelK (w : World) (base g : Nat) (S : List CaseD) (e : Ending) (w' : World) : Prop := ∃ v, e = .returned v ∧ ElOwn EK 37 w' base v S ∧ (v = .slice none 0 0 ∨ v.ownBlock = some g) ∧ w.grownBy w' (some g)
set_option maxRecDepth 100000 in
set_option maxHeartbeats 1000000 in
theorem deleteK_any (n : Nat) (u : Value) (T : CaseD → Bool) (base g c : Nat) (S : List CaseD) (w : World) (hown : ElOwn EK 37 w base (.slice (some ⟨g, 0, none⟩) S.length c) S) (hl : S.length ≤ 100000) (hn : ∀ args w, (callFunc n args).run Try.prog w = .ok (.enter n args) w)
    (hT : ∀ (W : World) (d : CaseD), w.grownBy W (some g) → Calls Try.prog n #[caseV d, u] W (RetB (.bool (T d)) W)) :
    Calls Try.prog 29 #[.slice (some ⟨g, 0, none⟩) S.length c, .func (.func n) #[] #[u]] w (DelK w base g (S.filter fun y => !T y)) := by
  have HOWN := Lib.hid hown
  have HT := Lib.hid hT
  have HCAP := Lib.hid hown.cap
  clear hown hT
  go_enter Try.func29, Try.ntmps29
  go_wp2_with fail
  have HKP := Lib.hid (show ElP EK (fun _ => True) w (some ⟨g, 0, none⟩) c S from by
    obtain ⟨A', c', e, hk⟩ := HOWN.out.toP
    injection e with e1 e2 e3
    subst e1 e3
    exact hk.mono (fun b _ h => trivial))
  refine ret_below (idxK2_any n u T (some ⟨g, 0, none⟩) S c w HKP.out hl hn (fun W d hb => HT.out W d (grown_of_below hb))) fun w1 hb => ?_
  have HB := Lib.hid hb
  clear hb
  rcases ixCs_cases T S with ⟨hix, hall⟩ | ⟨k, hix, hk, hTk, hall⟩
  · have HV := Lib.hid (filterK_none hall)
    clear hall
    rw [hix]
    clear hix
    go_wp2_with fail
    go_ret
    exact ⟨_, rfl, by rw [← HV.out]; exact HOWN.out.below HB.out, .inr rfl, grown_of_below HB.out⟩
  · have HD := Lib.hid (DlK.start hk hTk hall (HOWN.out.below HB.out) (grown_of_below (r := some g) HB.out))
    have e1 : ((k : Int) == -1) = false := by simp
    rw [hix]
    clear hall hTk hix
    go_wp2_with fail
    go_loopw [6, 5] (fun j i wr => ∃ j' i' : Nat, j' ≤ S.length ∧ j = .int .i64 j' ∧ i = .int .i64 i' ∧ DlK T S g c base w j' i' wr) (fun j _ _ => S.length - (intOf j).toNat)
    case atStart => exact ⟨k + 1, k, by omega, by go_num, rfl, HD.out⟩
    case round =>
      obtain ⟨j, i, hj, rfl, rfl, hinv⟩ := hrel
      have HI := Lib.hid hinv
      clear hinv
      by_cases hlt : j < S.length
      · obtain ⟨a1, a2, a3, a4, ⟨y, a6⟩, a8, a9⟩ := HI.out.facts hlt
        have x0 := a4 0 (by omega)
        have x1 := a4 1 (by omega)
        have x2 := a4 2 (by omega)
        have x3 := a4 3 (by omega)
        have x4 := a4 4 (by omega)
        have HA6 := Lib.hid a6
        have HA8 := Lib.hid a8
        have q0 : wr.cell? ⟨g, j * 5, none⟩ = some (.int .i64 (kAt S j).c) := x0
        have q1 : wr.cell? ⟨g, j * 5 + 1, none⟩ = some (.string (kAt S j).r) := x1
        have q2 : wr.cell? ⟨g, j * 5 + 2, none⟩ = some (.string (kAt S j).o) := x2
        have q3 : wr.cell? ⟨g, j * 5 + 3, none⟩ = some (.int .i64 (kAt S j).t) := x3
        have q4 : wr.cell? ⟨g, j * 5 + 4, none⟩ = some (.bool (kAt S j).s) := x4
        have i1 : (0 : Int) ≤ (j : Int) := by omega
        have i2 : (j : Int) < (S.length : Int) := by omega
        clear a4 a6 a8 x0 x1 x2 x3 x4
        go_wp2_with fail
        refine gen_calls fun w2 hw2 => ?_
        have HB2 := Lib.hid (show Below wr.heap.size wr w2 from by rw [hw2]; exact below_alloc _ _)
        have HC2 := Lib.hid (show CaseC w2 wr.heap.size (kAt S j) from by rw [hw2]; exact CaseC.new _ rfl)
        have HGR := Lib.hid (grown_trans a9 (grown_of_below (r := some g) HB2.out))
        clear hw2 q0 q1 q2 q3 q4
        refine ret_below (HT.out w2 (kAt S j) HGR.out) fun w3 hb3 => ?_
        have HBW := Lib.hid (below_trans HB2.out hb3)
        have HC3 := Lib.hid (HC2.out.below hb3)
        clear hb3
        generalize hx : T (kAt S j) = tv at *
        have HX := Lib.hid hx
        clear hx
        cases tv with
        | true =>
          have HN := Lib.hid (HI.out.drop hlt HX.out HBW.out)
          clear HI HGR a9
          go_wp2_with fail
          go_roundw
          case rel => exact ⟨j + 1, i, by omega, by go_num, rfl, HN.out⟩
          case measure => simp [intOf]; omega
        | false =>
          have HN := Lib.hid (HI.out.keep hlt HX.out HBW.out)
          have m0 : w3.cell? ⟨g, i * 5, none⟩ = some (.int .i64 y.c) := (HBW.out.cell (p := ⟨g, i * 5, none⟩) a1).trans (HA6.out 0 (by omega))
          have m1 : w3.cell? ⟨g, i * 5 + 1, none⟩ = some (.string y.r) := (HBW.out.cell (p := ⟨g, i * 5 + 1, none⟩) a1).trans (HA6.out 1 (by omega))
          have m2 : w3.cell? ⟨g, i * 5 + 2, none⟩ = some (.string y.o) := (HBW.out.cell (p := ⟨g, i * 5 + 2, none⟩) a1).trans (HA6.out 2 (by omega))
          have m3 : w3.cell? ⟨g, i * 5 + 3, none⟩ = some (.int .i64 y.t) := (HBW.out.cell (p := ⟨g, i * 5 + 3, none⟩) a1).trans (HA6.out 3 (by omega))
          have m4 : w3.cell? ⟨g, i * 5 + 4, none⟩ = some (.bool y.s) := (HBW.out.cell (p := ⟨g, i * 5 + 4, none⟩) a1).trans (HA6.out 4 (by omega))
          have f0 : w3.frozen? ⟨g, i * 5, none⟩ = false := (HBW.out.frozen (p := ⟨g, i * 5, none⟩) a1).trans (HA8.out _)
          have f1 : w3.frozen? ⟨g, i * 5 + 1, none⟩ = false := (HBW.out.frozen (p := ⟨g, i * 5 + 1, none⟩) a1).trans (HA8.out _)
          have f2 : w3.frozen? ⟨g, i * 5 + 2, none⟩ = false := (HBW.out.frozen (p := ⟨g, i * 5 + 2, none⟩) a1).trans (HA8.out _)
          have f3 : w3.frozen? ⟨g, i * 5 + 3, none⟩ = false := (HBW.out.frozen (p := ⟨g, i * 5 + 3, none⟩) a1).trans (HA8.out _)
          have f4 : w3.frozen? ⟨g, i * 5 + 4, none⟩ = false := (HBW.out.frozen (p := ⟨g, i * 5 + 4, none⟩) a1).trans (HA8.out _)
          have r0 := HC3.out.c0
          have r1 := HC3.out.c1
          have r2 := HC3.out.c2
          have r3 := HC3.out.c3
          have r4 := HC3.out.c4
          have i3 : (0 : Int) ≤ (i : Int) := by omega
          have i4 : (i : Int) < (S.length : Int) := by omega
          clear HI HGR a9
          generalize kAt S j = x at *
          go_wp2_with fail
          go_roundw
          case rel => exact ⟨j + 1, i + 1, by omega, by go_num, by go_num, HN.out⟩
          case measure => simp [intOf]; omega
      · have hje : j = S.length := by omega
        subst hje
        obtain ⟨L, X, h1, h2, h3, h4, h5, h6, h7⟩ := HI.out
        have hiL : i < L.length := by omega
        rw [← h5] at h6
        obtain ⟨w3, hrun, hown3, hg3⟩ := clear_el EK ⟨0, ⟨#[]⟩, ⟨#[]⟩, 0, false⟩ Try.underlying28 zeroK_run rfl h6 i hiL (c - i) (S.length - i) (by omega)
        have hres : L.take i = S.filter fun y => !T y := by
          rw [h2, h1, List.append_assoc, List.take_left', kepK_end]; rfl
        have HR := Lib.hid (show DelK w base g (S.filter fun y => !T y) (.returned (.slice (some ⟨g, 0, none⟩) i c)) w3 from ⟨_, rfl, by rw [← hres]; exact hown3, .inr rfl, grown_trans h7 hg3⟩)
        have hrun' : ∀ t, (Builtin.clear_ #[28] t #[.slice (some ⟨g, i * 5, none⟩) (S.length - i) (c - i)]).run Try.prog wr = .ok (.tuple #[]) w3 := hrun
        have hi2 : i ≤ S.length := by omega
        have hi3 := HCAP.out.2.1
        have hi4 : i ≤ c := by omega
        clear h1 h2 h3 h4 h6 h7 hown3 hg3 hres HI hrun
        go_wp2_with fail
        go_ret
        exact HR.out
end Go.Proofs.Ytjckpammcgeloaa
namespace Go.Proofs.Ytjckpammcgeloaa
open Go.RowKit

theorem G_bapp {P : Program} {ops : Array Oper} {o : Oper} {a : Act} {K : Act → World → Prop} {Q : Exit → Act → World → Prop} {E : Prop} {w w' : World} (hgd : o.guard = none) (s x : Operand) (t : TypeId) (ho : o.op = .call { callee := .builtin .append, args := #[s, x], argTypes := #[t, t] }) {v : Value} (h : (Builtin.append_ #[t, t] o.type #[a.eval s, a.eval x]).run P w = .ok v w') (hK : K (a.put o.dst v) w') :
    if Region.wanted o (yielded ops a.tmps) = true then Oper.wp P o a w K Q else E := by
  refine J_val hgd (v := v) (w' := w') ?_ hK
  simp only [execOp, ho, resolve, invoke, builtin, Sem.run_bind, Sem.run_pure, Result.andThen_ok, List.map_toArray, List.map_cons, List.map_nil, h]
theorem zeroC_run (w : World) : (zeroValue 45).run Try.prog w = .ok (.agg #[.int .i64 0, .string ⟨#[]⟩, .slice none 0 0]) w := by kernel_rfl
/-- A region in which operation n alone turns the world. -/
structure OneT (n : Nat) (W0 W1 : World) (V : Nat → Value) (L : Nat → Bool) (w : World) : Prop where
  b : L n = false → w = W0
  d : L n = true → w = W1
section
variable {n : Nat} {W0 W1 w : World} {V V' : Nat → Value} {L : Nat → Bool}
theorem OneT.mv (h : OneT n W0 W1 V L w) (i : Nat) (hi : n ≠ i) : OneT n W0 W1 V' (upd L i) w := ⟨fun e => h.b (by rw [upd_other _ hi] at e; exact e), fun e => h.d (by rw [upd_other _ hi] at e; exact e)⟩
theorem OneT.ap (h : OneT n W0 W1 V L w) : OneT n W0 W1 V' (upd L n) W1 := ⟨fun e => (by rw [upd_same] at e; cases e), fun _ => rfl⟩
theorem OneT.start (n : Nat) (W0 W1 : World) (V : Nat → Value) : OneT n W0 W1 V (fun _ => false) W0 := ⟨fun _ => rfl, fun e => (by cases e)⟩
end
def DelC (w : World) (base g c n : Nat) (X : List CouV) (e : Ending) (w' : World) : Prop := e = .returned (.slice (some ⟨g, 0, none⟩) n c) ∧ ElOwn EC 45 w' base (.slice (some ⟨g, 0, none⟩) n c) X ∧ w.grownBy w' (some g)
set_option maxRecDepth 100000 in
set_option maxHeartbeats 4000000 in
theorem deleteC_any (base g c i m N : Nat) (X : List CouV) (w : World) (hown : ElOwn EC 45 w base (.slice (some ⟨g, 0, none⟩) N c) X) (hN : N = i + m + 1) (hl : N ≤ 100000) :
    Calls Try.prog 28 #[.slice (some ⟨g, 0, none⟩) N c, .int .i64 (i : Int), .int .i64 ((i : Int) + 1)] w (DelC w base g c (i + m) (X.eraseIdx i)) := by
  obtain ⟨hX, hcap, hcm⟩ := hown.cap
  have HOW := Lib.hid (show ElOwn EC 45 w.drew base (.slice (some ⟨g, 0, none⟩) X.length c) X from by rw [← hX]; exact hown.below (Below.drew (Below.refl _ _)))
  have HX := Lib.hid hX
  have HN := Lib.hid hN
  have n1 : N ≤ c := by omega
  have n2 : i < N := by omega
  have n3 : (i : Int) + 1 ≤ (N : Int) := by omega
  have n4 : (i : Int) + 1 ≤ (c : Int) := by omega
  have n5 : (0 : Int) ≤ (i : Int) + 1 := by omega
  have n6 : ((i : Int) + 1).toNat = i + 1 := by omega
  have n7 : (i : Int) ≤ (c : Int) := by omega
  have n8 : (0 : Int) ≤ (i : Int) := by omega
  have n9 : ¬ c = 0 := by omega
  have n10 : (N : Int) ≤ (c : Int) := by omega
  have n11 : (i : Int) ≤ (i : Int) + 1 := by omega
  clear hX hN hcap hown
  obtain ⟨i0, hi0, hz0, hz1, hz2⟩ := info_parts info_cou
  have key : ∀ (ad : Addr) (cd : Nat), (m = 0 ∨ ad = ⟨g, (i + 1) * 3, none⟩) → ∃ W1 W2, (∀ t, (Builtin.append_ #[27, 27] t #[.slice (some ⟨g, 0, none⟩) i c, .slice (some ad) m cd]).run Try.prog w.drew = .ok (.slice (some ⟨g, 0, none⟩) (i + m) c) W1) ∧ (∀ t, (Builtin.clear_ #[27] t #[.slice (some ⟨g, (i + m) * 3, none⟩) 1 (c - (i + m))]).run Try.prog W1 = .ok (.tuple #[]) W2) ∧ DelC w base g c (i + m) (X.eraseIdx i) (.returned (.slice (some ⟨g, 0, none⟩) (i + m) c)) W2 := by
    intro ad cd had
    obtain ⟨W1, Y, hrun, ho1, hg1⟩ := shift_el EC Try.underlying27 hi0 hz1 HOW.out i (by have := HX.out; omega) ad cd m (by have := HX.out; have := HN.out; omega) had
    have HLE : (X.eraseIdx i ++ [Y]).length = i + m + 1 := by rw [List.length_append, List.length_eraseIdx, if_pos (by have := HX.out; omega)]; have := HX.out; have := HN.out; simp; omega
    obtain ⟨W2, hrun2, ho2, hg2⟩ := clear_el EC ⟨0, ⟨#[]⟩, none, 0, 0⟩ Try.underlying27 zeroC_run rfl (show ElOwn EC 45 W1 base (.slice (some ⟨g, 0, none⟩) (X.eraseIdx i ++ [Y]).length c) (X.eraseIdx i ++ [Y]) from by rw [HLE, ← HN.out, HX.out]; exact ho1) (i + m) (by rw [HLE]; omega) (c - (i + m)) 1 (by rw [HLE]; omega)
    refine ⟨W1, W2, hrun, hrun2, rfl, ?_, grown_trans (grown_trans (grown_of_below (Below.drew (Below.refl _ _))) hg1) hg2⟩
    rw [List.take_append_of_le_length (by simp at HLE; omega), List.take_of_length_le (by simp at HLE; omega)] at ho2
    exact ho2
  obtain ⟨z, hz⟩ : ∃ z, z = i + m := ⟨_, rfl⟩
  rw [← hz] at key ⊢
  have HZ := Lib.hid hz
  have z2 : (z : Int) ≤ (N : Int) := by have := HN.out; omega
  have z4 : N - z = 1 := by have := HN.out; omega
  have z5 : ¬ c = z := by have := HN.out; omega
  have q1 : N - (i + 1) = m := by have := HN.out; omega
  clear hz hi0 hz0 hz1 hz2
  have b0 : ((i : Int) == (i : Int) + 1) = false := by simp; omega
  by_cases hc : c = i + 1
  · obtain rfl : m = 0 := by have := HN.out; omega
    obtain rfl : N = i + 1 := by have := HN.out; omega
    subst hc
    obtain rfl : z = i := by have := HZ.out; omega
    obtain ⟨W1, W2, h1, h2, h3⟩ := key ⟨g, 0, none⟩ 0 (.inl rfl)
    have HRUN := Lib.hid h1
    have HR2 := Lib.hid h2
    have HE := Lib.hid h3
    clear h1 h2 h3 key
    go_enter Try.func28, Try.ntmps28
    go_wp2_with fail
    go_region_law (refine G_bapp rfl (.tmp 22) (.tmp 25) _ rfl (by simp only [Act.eval, Act.put]; exact HRUN.out _) ?_)
    have r2 := HR2.out
    rw [Nat.add_sub_cancel_left] at r2
    go_wp2_with fail
    go_outline
    trace_state
    go_ret
    exact HE.out
  · obtain ⟨W1, W2, h1, h2, h3⟩ := key ⟨g, (i + 1) * 3, none⟩ (c - (i + 1)) (.inr rfl)
    have HRUN := Lib.hid h1
    have HR2 := Lib.hid h2
    have HE := Lib.hid h3
    clear h1 h2 h3 key
    go_enter Try.func28, Try.ntmps28
    go_wp2_with fail
    go_region_law (refine G_bapp rfl (.tmp 22) (.tmp 25) _ rfl (by simp only [Act.eval, Act.put]; exact HRUN.out _) ?_)
    have r2 := HR2.out
    go_wp2_with fail
    go_ret
    exact HE.out
end Go.Proofs.Ytjckpammcgeloaa
