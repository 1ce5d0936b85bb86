/-
  Shares: a dealer deals an element.
-/
import Derived.Test.YtkjpnhhkebbmdaaDoorShM
import Derived.Deep.RegionLaw
import Derived.Conc.EntryLaws
import Derived.Deep.DeepCutAuto
namespace Go.Proofs.YtkjpnhhkebbmdaaDoor
open Go.RowKit

theorem Rows2.grow {w W w' : World} {base g c : Nat} {H : List HV} {T : List ShN} (h : Rows2 w base (.slice (some ⟨g, 0, none⟩) H.length c) H T) (k : Nat) (hk : k < T.length) (y : Nat) (g' cap : Nat) (hW : Below w.heap.size w W)
    (hown : w'.ownsRow base 3 1 (.slice (some ⟨g', 0, none⟩) ((vN T k).length + 1) cap) ((vN T k).length + 1) (valsN (vN T k ++ [y]))) (hg : W.grownBy w' (hvAt H k).2.ownBlock) (hat : (hvAt H k).2.ownBlock = some g' ∨ g' = W.heap.size) :
    Rows2 (w'.setCell ⟨g, k * 2 + 1, none⟩ (.slice (some ⟨g', 0, none⟩) ((vN T k).length + 1) cap)) base (.slice (some ⟨g, 0, none⟩) H.length c) (H.set k ((hvAt H k).1, .slice (some ⟨g', 0, none⟩) ((vN T k).length + 1) cap)) (T.set k (hN T k, vN T k ++ [y])) := by
  have hl := h.len
  have hWs := hW.size
  have hgb : ∀ b, (Value.slice (some ⟨g, 0, none⟩) H.length c).ownBlock = some b → b = g := fun b e => (Option.some.inj (show some g = some b from e)).symm
  have hrg : ∀ j, j < T.length → ∀ b, (hvAt H j).2.ownBlock = some b → b ≠ g := fun j hj b e e2 => h.no j hj b e (by rw [e2]; rfl)
  have hW1 := h.below hW
  have hout := hW1.out.kept hg (by
    rcases he : (hvAt H k).2.ownBlock with _ | b
    · exact .inr (fun e => by cases e)
    · exact .inr (fun e => hrg k hk b he (Option.some.inj (show some g = some b from e)).symm))
  have hg'g : g' ≠ g := by
    rcases hat with e | e
    · exact hrg k hk g' e
    · have := (World.ownsRow.lt h.out g rfl).2; omega
  have hTs : ∀ j, j ≠ k → hN (T.set k (hN T k, vN T k ++ [y])) j = hN T j ∧ vN (T.set k (hN T k, vN T k ++ [y])) j = vN T j := fun j hj => by
    simp [hN, vN, List.getD_eq_getElem?_getD, List.getElem?_set_ne (Ne.symm hj)]
  have hTk : hN (T.set k (hN T k, vN T k ++ [y])) k = hN T k ∧ vN (T.set k (hN T k, vN T k ++ [y])) k = vN T k ++ [y] := by
    simp [hN, vN, List.getD_eq_getElem?_getD, hk]
  have hrows : ∀ j, j < T.length → j ≠ k → w'.ownsRow base 3 1 (hvAt H j).2 (vN T j).length (valsN (vN T j)) := fun j hj hjk => (hW1.row j hj).kept hg (by
    rcases he : (hvAt H j).2.ownBlock with _ | b
    · exact .inl rfl
    · exact .inr (fun e => h.ne j k hj hk hjk b he e.symm))
  have hbk : ∀ j, j < T.length → j ≠ k → ∀ b, (hvAt H j).2.ownBlock = some b → b ≠ g' := fun j hj hjk b e e2 => by
    rcases hat with e3 | e3
    · exact h.ne j k hj hk hjk b e (by rw [e3, e2])
    · have := (World.ownsRow.lt (h.row j hj) b e).2; omega
  have hs := hout.set1 k (by omega) (.slice (some ⟨g', 0, none⟩) ((vN T k).length + 1) cap)
  refine ⟨?_, by simp [hl], fun j hj => ?_, fun j hj => ?_, fun i j hi hj hij b e1 e2 => ?_, fun i hi b e1 e2 => ?_⟩
  · exact hs
  · simp only [List.length_set] at hj
    by_cases hjk : j = k
    · subst hjk; rw [hvAt_set_same _ _ _ (by omega), hTk.1]; exact h.hold j hj
    · rw [hvAt_set_other _ _ _ _ (Ne.symm hjk), (hTs j hjk).1]; exact h.hold j hj
  · simp only [List.length_set] at hj
    by_cases hjk : j = k
    · subst hjk
      rw [hvAt_set_same _ _ _ (by omega), hTk.2, List.length_append]
      exact own_other hown _ _ (fun b e => by
        have : g' = b := Option.some.inj (show some g' = some b from e)
        subst this; exact hg'g)
    · rw [hvAt_set_other _ _ _ _ (Ne.symm hjk), (hTs j hjk).2]
      exact own_other (hrows j hj hjk) _ _ (fun b e => hrg j hj b e)
  · simp only [List.length_set] at hi hj
    by_cases hik : i = k
    · subst hik
      rw [hvAt_set_same _ _ _ (by omega)] at e1
      rw [hvAt_set_other _ _ _ _ hij] at e2
      exact hbk j hj (Ne.symm hij) b e2 (Option.some.inj (show some g' = some b from e1)).symm
    · rw [hvAt_set_other _ _ _ _ (Ne.symm hik)] at e1
      by_cases hjk : j = k
      · subst hjk
        rw [hvAt_set_same _ _ _ (by omega)] at e2
        exact hbk i hi hik b e1 (Option.some.inj (show some g' = some b from e2)).symm
      · rw [hvAt_set_other _ _ _ _ (Ne.symm hjk)] at e2
        exact h.ne i j hi hj hij b e1 e2
  · simp only [List.length_set] at hi
    have hb := hgb b (by simpa using e2)
    by_cases hik : i = k
    · subst hik
      rw [hvAt_set_same _ _ _ (by omega)] at e1
      exact hg'g ((Option.some.inj (show some g' = some b from e1)).trans hb)
    · rw [hvAt_set_other _ _ _ _ (Ne.symm hik)] at e1
      exact hrg i hi b e1 hb

def stepT (p : Nat) (f : List Nat) (T : List ShN) (k : Nat) : List ShN := (List.range T.length).map fun j => (hN T j, if j < k then vN T j ++ [evN p f (hN T j)] else vN T j)
theorem stepT_len (p : Nat) (f : List Nat) (T : List ShN) (k : Nat) : (stepT p f T k).length = T.length := by simp [stepT]
theorem stepT_at {p : Nat} {f : List Nat} {T : List ShN} {k j : Nat} (hj : j < T.length) : hN (stepT p f T k) j = hN T j ∧ vN (stepT p f T k) j = if j < k then vN T j ++ [evN p f (hN T j)] else vN T j := by
  simp [stepT, hN, vN, List.getD_eq_getElem?_getD, hj]
theorem shl_ext {S T : List ShN} (hl : S.length = T.length) (h : ∀ k, k < S.length → hN S k = hN T k ∧ vN S k = vN T k) : S = T := by
  refine List.ext_getElem hl fun k h1 h2 => ?_
  rw [getD_at h1, getD_at h2, (h k h1).1, (h k h1).2]
theorem set_at {S : List ShN} {k a : Nat} {b : List Nat} (hk : k < S.length) : hN (S.set k (a, b)) k = a ∧ vN (S.set k (a, b)) k = b := by simp [hN, vN, List.getD_eq_getElem?_getD, hk]
theorem stepT_zero (p : Nat) (f : List Nat) (T : List ShN) : stepT p f T 0 = T :=
  shl_ext (stepT_len _ _ _ _) fun k hk => by
    rw [stepT_len] at hk
    obtain ⟨e1, e2⟩ := stepT_at (p := p) (f := f) (k := 0) hk
    rw [e1, e2, if_neg (by omega)]; exact ⟨rfl, rfl⟩
theorem stepT_succ {p : Nat} {f : List Nat} {T : List ShN} {k : Nat} (hk : k < T.length) :
    stepT p f T (k + 1) = (stepT p f T k).set k (hN (stepT p f T k) k, vN (stepT p f T k) k ++ [evN p f (hN (stepT p f T k) k)]) := by
  refine shl_ext (by simp [stepT_len]) fun j hj => ?_
  rw [stepT_len] at hj
  obtain ⟨e1, e2⟩ := stepT_at (p := p) (f := f) (k := k + 1) hj
  obtain ⟨e3, e4⟩ := stepT_at (p := p) (f := f) (k := k) hj
  obtain ⟨e5, e6⟩ := stepT_at (p := p) (f := f) (k := k) hk
  rw [e1, e2]
  by_cases hjk : j = k
  · subst hjk
    have hs := set_at (S := stepT p f T j) (k := j) (a := hN (stepT p f T j) j) (b := vN (stepT p f T j) j ++ [evN p f (hN (stepT p f T j) j)]) (by rw [stepT_len]; exact hj)
    rw [hs.1, hs.2, e5, e6, if_pos (by omega), if_neg (by omega)]
    exact ⟨rfl, rfl⟩
  · have : hN ((stepT p f T k).set k (hN (stepT p f T k) k, vN (stepT p f T k) k ++ [evN p f (hN (stepT p f T k) k)])) j = hN (stepT p f T k) j ∧ vN ((stepT p f T k).set k (hN (stepT p f T k) k, vN (stepT p f T k) k ++ [evN p f (hN (stepT p f T k) k)])) j = vN (stepT p f T k) j := by
      simp [hN, vN, List.getD_eq_getElem?_getD, List.getElem?_set_ne (Ne.symm hjk)]
    rw [this.1, this.2, e3, e4]
    refine ⟨rfl, ?_⟩
    by_cases h1 : j < k
    · rw [if_pos h1, if_pos (by omega)]
    · rw [if_neg h1, if_neg (by omega)]
/-- The polynomial's list lies in none of the rows. -/
def FarF (F : Option Addr) (v : Value) (H : List HV) (m : Nat) : Prop := ∀ bF off, F = some ⟨bF, off, none⟩ → (∀ i, i < m → ∀ b, (hvAt H i).2.ownBlock = some b → b ≠ bF) ∧ ∀ b, v.ownBlock = some b → b ≠ bF
theorem NatsAt.keepF {w w' : World} {A : Option Addr} {L : List Nat} (h : NatsAt w A L) (hs : w.heap.size ≤ w'.heap.size) (hb : ∀ b off, A = some ⟨b, off, none⟩ → b < w.heap.size → w'.heap[b]? = w.heap[b]?) : NatsAt w' A L := fun k hk => by
  obtain ⟨b, off, hA, hlt, hc⟩ := h k hk
  exact ⟨b, off, hA, Nat.lt_of_lt_of_le hlt hs, (World.cell?_of_block (w := w) (hb b off hA hlt)).trans hc⟩
theorem Rows2.slot {w : World} {base : Nat} {v : Value} {H : List HV} {T : List ShN} (h : Rows2 w base v H T) {k : Nat} (hk : k < T.length) :
    ∃ g c B c', v = .slice (some ⟨g, 0, none⟩) H.length c ∧ (hvAt H k).2 = .slice B (vN T k).length c' ∧ g < w.heap.size ∧ base ≤ g ∧ w.cell? ⟨g, k * 2, none⟩ = some (.int .i64 (hN T k : Nat)) ∧ w.cell? ⟨g, k * 2 + 1, none⟩ = some (.slice B (vN T k).length c') ∧ ∀ j, w.frozen? ⟨g, j, none⟩ = false := by
  obtain ⟨g, c, hv, hg, hbg, -, -, hcell, hfr⟩ := h.out.form (by rw [h.len]; omega)
  obtain ⟨B, c', hv2, -⟩ := own_sl (h.row k hk) rfl
  obtain ⟨c1, c2⟩ := hcell k (by rw [h.len]; exact hk)
  exact ⟨g, c, B, c', hv, hv2, hg, hbg, by rw [c1, h.hold k hk], by rw [c2, hv2], hfr⟩
theorem grown_blk {wr w4 W w5 : World} {g : Nat} {r : Option Nat} (hg : g < wr.heap.size) (hb4 : Below wr.heap.size wr w4) (hbW : Below w4.heap.size w4 W) (hg5 : W.grownBy w5 r) (hne : some g ≠ r) : w5.heap[g]? = wr.heap[g]? :=
  (hg5.block g (Nat.lt_of_lt_of_le hg (Nat.le_trans hb4.size hbW.size)) hne).trans ((hbW.block g (Nat.lt_of_lt_of_le hg hb4.size)).trans (hb4.block g hg))
theorem frozen_of_block {w w' : World} {b o : Nat} (h : w'.heap[b]? = w.heap[b]?) : w'.frozen? ⟨b, o, none⟩ = w.frozen? ⟨b, o, none⟩ := by unfold World.frozen?; simp only; rw [h]
theorem deal_next {wr w4 W w5 : World} {base d g c k y g' cap : Nat} {H : List HV} {S : List ShN} {F : Option Addr} {f : List Nat} (hd : d < base) (hbase : base ≤ wr.heap.size)
    (hR : Rows2 wr base (.slice (some ⟨g, 0, none⟩) H.length c) H S) (hk : k < S.length) (hFar : FarF F (.slice (some ⟨g, 0, none⟩) H.length c) H S.length) (hF : NatsAt wr F f) (hFlt : ∀ bF off, F = some ⟨bF, off, none⟩ → bF < wr.heap.size)
    (hb4 : Below wr.heap.size wr w4) (hbW : Below w4.heap.size w4 W) (hown : w5.ownsRow base 3 1 (.slice (some ⟨g', 0, none⟩) ((vN S k).length + 1) cap) ((vN S k).length + 1) (valsN (vN S k ++ [y])))
    (hg5 : W.grownBy w5 (hvAt H k).2.ownBlock) (hat : (hvAt H k).2.ownBlock = some g' ∨ g' = W.heap.size) (hb5 : Below base w4 w5) :
    (w5.setCell ⟨g, k * 2 + 1, none⟩ (.slice (some ⟨g', 0, none⟩) ((vN S k).length + 1) cap)).heap[d]? = wr.heap[d]? ∧
    Rows2 (w5.setCell ⟨g, k * 2 + 1, none⟩ (.slice (some ⟨g', 0, none⟩) ((vN S k).length + 1) cap)) base (.slice (some ⟨g, 0, none⟩) H.length c) (H.set k ((hvAt H k).1, .slice (some ⟨g', 0, none⟩) ((vN S k).length + 1) cap)) (S.set k (hN S k, vN S k ++ [y])) ∧
    FarF F (.slice (some ⟨g, 0, none⟩) H.length c) (H.set k ((hvAt H k).1, .slice (some ⟨g', 0, none⟩) ((vN S k).length + 1) cap)) S.length ∧
    NatsAt (w5.setCell ⟨g, k * 2 + 1, none⟩ (.slice (some ⟨g', 0, none⟩) ((vN S k).length + 1) cap)) F f ∧
    Below base wr (w5.setCell ⟨g, k * 2 + 1, none⟩ (.slice (some ⟨g', 0, none⟩) ((vN S k).length + 1) cap)) := by
  have hgb := (World.ownsRow.lt hR.out g rfl)
  have hl := hR.len
  refine ⟨?_, (hR.below hb4).grow k hk y g' cap hbW hown hg5 hat, fun bF off e => ⟨fun i hi b e2 => ?_, fun b e2 => (hFar bF off e).2 b e2⟩, ?_, ?_⟩
  · rw [Below.heap_setCell _ _ _ _ (by simp; omega), hb5.block d hd, hb4.block d (by omega)]
  · by_cases hik : i = k
    · subst hik
      rw [hvAt_set_same _ _ _ (by omega)] at e2
      have hb : g' = b := Option.some.inj (show some g' = some b from e2)
      subst hb
      rcases hat with e3 | e3
      · exact (hFar bF off e).1 i hi g' e3
      · have h1 := hFlt bF off e
        have h2 := hb4.size
        have h3 := hbW.size
        omega
    · rw [hvAt_set_other _ _ _ _ (Ne.symm hik)] at e2
      exact (hFar bF off e).1 i hi b e2
  · refine hF.keepF (by have := hb4.size; have := hbW.size; have := hg5.size; simp [World.setCell]; omega) fun bF off e hlt => ?_
    have h1 := (hFar bF off e).2 g rfl
    rw [Below.heap_setCell _ _ _ _ (by simp; omega)]
    exact grown_blk hlt hb4 hbW hg5 (fun e2 => (hFar bF off e).1 k hk bF e2.symm rfl)
  · exact ((hb4.mono hbase).trans hb5).setCell (by simp; omega) _
/-- append of one number onto a row of the own, in a region that draws. -/
theorem step_app_row {ops : Array Oper} {o : Oper} {a : Act} {K : Act → World → Prop} {Q : Exit → Act → World → Prop} {E : Prop} (W : World) (hgd : o.guard = none) (s x : Operand)
    (ho : o.op = .call { callee := .builtin .append, args := #[s, x], argTypes := #[22, 22] })
    (w5 : World) (base : Nat) (v : Value) (S : List Nat) (y : Nat) (hs : a.eval s = v) (hx : a.eval x = .slice (some ⟨w5.heap.size, 0, none⟩) 1 1)
    (hW : W.heap = (w5.alloc (.cells #[.int .i64 (y : Int)] 3)).heap ∧ W.os = w5.os ∧ W.tape = w5.tape ∧ W.output = w5.output)
    (hown : w5.ownsRow base 3 1 v S.length (valsN S)) (hl : S.length ≤ 4194304) (hbase : base ≤ w5.heap.size)
    (h : ∀ g cap w', w'.ownsRow base 3 1 (.slice (some ⟨g, 0, none⟩) (S.length + 1) cap) (S.length + 1) (valsN (S ++ [y])) → W.grownBy w' v.ownBlock → Below w5.heap.size w5 W → (v.ownBlock = some g ∨ g = W.heap.size) → Below base w5 w' → K (a.put o.dst (.slice (some ⟨g, 0, none⟩) (S.length + 1) cap)) w') :
    if Region.wanted o (yielded ops a.tmps) = true then Oper.wp Tryd.prog o a W K Q else E := by
  obtain ⟨i0, hi, hz0, hz1, hz2⟩ := info_parts info_int
  have hownW : W.ownsRow base 3 1 v S.length (valsN S) := by
    obtain ⟨h1, h2⟩ := own_below hown (below_alloc w5 (.cells #[.int .i64 (y : Int)] 3))
    refine ⟨h1, ?_⟩
    rw [hW.1]; exact h2
  have hsz : W.heap.size = w5.heap.size + 1 := by rw [hW.1]; simp
  have hcell : ∀ x, W.cell? x = (w5.alloc (.cells #[.int .i64 (y : Int)] 3)).cell? x := fun x => by unfold World.cell?; rw [hW.1]
  refine step_append_lies _ hgd s x 22 ho base 3 i0 _ 1 8 Tryd.underlying22 hi hz0 hz1 hz2 rfl (by omega) v S.length (valsN S) hs hownW ⟨w5.heap.size, 0, none⟩ 1 1 (valsN [y]) hx rfl (fun j u hu => (hcell _).trans ((lit1_nats w5 y).nats.news rfl j u hu)) (valsN_one [y]) (by omega) (by unfold maxLen; omega) (by omega) (by omega) _ rfl ?_
  intro g cap w' ho' hg hat _
  have hbW : Below w5.heap.size w5 W := ⟨hW.2.1, hW.2.2.1, hW.2.2.2, by omega, fun k hk => by rw [hW.1]; exact heap_alloc_old w5 _ hk⟩
  refine h g cap w' ?_ hg hbW hat ((hbW.mono hbase).trans ((Below.refl _ _).grown hg (by omega) (fun k hk => by have := (hown.lt k hk).1; omega)))
  simpa [valsN] using ho'

/-- A call of a function by its contract, in a region that draws. -/
theorem step_call {ops : Array Oper} {o : Oper} {a : Act} {K : Act → World → Prop} {Q : Exit → Act → World → Prop} {E : Prop} {R : Ending → World → Prop} (W : World) (hgd : o.guard = none) (fid : FuncId) (xs : Array Operand) (ts : Array TypeId)
    (ho : o.op = .call { callee := .value (.func fid), args := xs, argTypes := ts }) (hen : ∀ args w, (callFunc fid args).run Tryd.prog w = .ok (.enter fid args) w) (args : Array Value) (ha : xs.map a.eval = args)
    (hc : Calls Tryd.prog fid args W R) (h : ∀ e w', R e w' → ∃ v, e = .returned v ∧ K (a.put o.dst v) w') :
    if Region.wanted o (yielded ops a.tmps) = true then Oper.wp Tryd.prog o a W K Q else E := by
  have hw : Region.wanted o (yielded ops a.tmps) = true := by simp [Region.wanted, hgd]
  rw [if_pos hw]
  have hcl : (execOp a.eval o).run Tryd.prog W = .ok (.enter fid args) W := by
    rw [Go.Conc.execOp_call_func ho, hen, ha]
  unfold Oper.wp
  rw [hcl]
  refine Calls.mono hc ?_
  intro e w' hr
  obtain ⟨v, rfl, hk⟩ := h e w' hr
  exact hk
theorem enter_eval (args : Array Value) (w : World) : (callFunc 67 args).run Tryd.prog w = .ok (.enter 67 args) w :=
  Go.MuLone.run_callFunc_enter Tryd.func67 (by kernel_rfl) rfl args w
theorem step_evalC {ops : Array Oper} {o : Oper} {a : Act} {K : Act → World → Prop} {Q : Exit → Act → World → Prop} {E : Prop} {p y x : Nat} {F : Option Addr} {cf m : Nat} (W : World) (hgd : o.guard = none) (s1 s2 s3 : Operand) (ts : Array TypeId)
    (ho : o.op = .call { callee := .value (.func 67), args := #[s1, s2, s3], argTypes := ts }) (h1 : a.eval s1 = .int .i64 (p : Int)) (h2 : a.eval s2 = .slice F m cf) (h3 : a.eval s3 = .int .i64 (x : Int))
    (hc : Calls Tryd.prog 67 #[.int .i64 (p : Int), .slice F m cf, .int .i64 (x : Int)] W (RetB (.int .i64 (y : Int)) W)) (h : ∀ w', Below W.heap.size W w' → K (a.put o.dst (.int .i64 (y : Int))) w') :
    if Region.wanted o (yielded ops a.tmps) = true then Oper.wp Tryd.prog o a W K Q else E :=
  step_call W hgd _ _ ts ho enter_eval _ (by simp [h1, h2, h3]) hc (fun e w' hr => by obtain ⟨rfl, hb⟩ := hr; exact ⟨_, rfl, h w' hb⟩)

set_option maxRecDepth 100000 in
set_option maxHeartbeats 4000000 in
theorem deal_any (d base p : Nat) (n h : Int) (T : List ShN) (F : Option Addr) (cf : Nat) (f : List Nat) (w : World) (v0 : Value) (H0 : List HV) (hd : d < base) (hbs : base ≤ w.heap.size)
    (hbox : w.heap[d]? = some (.cells #[.int .i64 (p : Int), .int .i64 n, .int .i64 h, v0] 76 (0, 0))) (hR : Rows2 w base v0 H0 T) (hF : NatsAt w F f) (hFar : FarF F v0 H0 T.length)
    (hFlt : ∀ bF off, F = some ⟨bF, off, none⟩ → bF < w.heap.size)
    (hp : 1 ≤ p) (hp2 : p ≤ 2147483648) (hf : ∀ x ∈ f, x < p) (hh : ∀ k, k < T.length → hN T k < p) (hfl : f.length ≤ 1048576) (htl : T.length ≤ 1000) (hvl : ∀ k, k < T.length → (vN T k).length ≤ 1048576) :
    Calls Tryd.prog 46 #[.pointer (some ⟨d, 0, none⟩), .slice F f.length cf] w
      (fun e w' => e = .returned (.tuple #[]) ∧ DlrAt w' d base p n h (stepT p f T T.length) ∧ Below base w w') := by
  have HF0 := Lib.hid hF
  have HFL := Lib.hid hFlt
  have HPF := Lib.hid hf
  have HH := Lib.hid hh
  have HVL := Lib.hid hvl
  have HR0 := Lib.hid hR
  have HFar0 := Lib.hid hFar
  have HBX0 := Lib.hid hbox
  obtain ⟨b0, b3, bf⟩ := dlr_box hbox
  have hld := blk_lt hbox
  obtain ⟨V0, cv0, rfl, -⟩ := hR.read
  clear hF hFlt hf hh hvl hR hFar hbox bf
  go_enter Tryd.func46, Tryd.ntmps46
  go_wp2_with fail
  go_loopw [11] (fun i wr => ∃ (k : Nat) (v : Value) (H : List HV), k ≤ T.length ∧ i = .int .i64 k ∧ wr.heap[d]? = some (.cells #[.int .i64 (p : Int), .int .i64 n, .int .i64 h, v] 76 (0, 0)) ∧ Rows2 wr base v H (stepT p f T k) ∧ FarF F v H T.length ∧ NatsAt wr F f ∧ Below base w wr) (fun i _ => T.length - (intOf i).toNat)
  case atStart => exact ⟨0, _, _, Nat.zero_le _, rfl, HBX0.out, by rw [stepT_zero]; exact HR0.out, HFar0.out, HF0.out, Below.refl _ _⟩
  case round =>
    obtain ⟨k, v, H, hk, rfl, hbox, hR, hFar, hF, hb⟩ := hrel
    have hsz := hb.size
    obtain ⟨c0, c3, cf0⟩ := dlr_box hbox
    have hldr := blk_lt hbox
    clear b0 b3
    by_cases hlt : k < T.length
    · have hkS : k < (stepT p f T k).length := by rw [stepT_len]; exact hlt
      obtain ⟨g, c, B, c', rfl, hv2, hg, hbg, g1, g2, gf⟩ := hR.slot hkS
      have HROW := Lib.hid (hR.row k hkS)
      have HR := Lib.hid hR
      have HSUC := Lib.hid (stepT_succ (p := p) (f := f) hlt)
      obtain ⟨e1, e2⟩ := stepT_at (p := p) (f := f) (k := k) hlt
      rw [if_neg (by omega)] at e2
      have hxp := HH.out k hlt
      have hvk := HVL.out k hlt
      have gf1 := gf (k * 2 + 1)
      rw [hv2] at HROW
      have HV2 := Lib.hid hv2
      have hHl : H.length = T.length := by rw [hR.len, stepT_len]
      have HFar := Lib.hid hFar
      have HF := Lib.hid hF
      have HBX := Lib.hid hbox
      have HTL := Lib.hid hHl
      have i1 : (0 : Int) ≤ (k : Int) := by omega
      have i2 : (k : Int) < (H.length : Int) := by omega
      rw [e2] at HROW g2
      rw [e1] at g1
      rw [e1, e2] at HSUC
      have hlv : (vN T k).length ≤ 1048576 := hvk
      have HE := Lib.hid (And.intro e1 e2)
      have hev := evN_lt hp f (hN T k)
      clear hR hFar hF hbox gf cf0 hv2 e1 e2 hHl
      generalize hx : hN T k = x at *
      generalize hL : vN T k = L at *
      have HXL := Lib.hid (And.intro hx hL)
      have HGB := Lib.hid (fun (w4 W w5 : World) (h1 : Below wr.heap.size wr w4) (h2 : Below w4.heap.size w4 W) (h3 : W.grownBy w5 (Value.slice B L.length c').ownBlock) => grown_blk (g := g) hg h1 h2 h3 (fun e => HR.out.no k hkS g (by rw [HV2.out, HE.out.2]; exact e.symm) rfl))
      have HEV := Lib.hid (fun (W : World) (hW : NatsAt W F f) => eval_any p x F f cf W hp hp2 hxp HPF.out hW (by omega))
      generalize evN p f x = y at *
      clear hx hL
      go_wp2_with fail
      go_region_law (first
        | (refine step_evalC _ rfl (.tmp 29) (.tmp 30) (.tmp 34) _ rfl rfl rfl rfl (HEV.out _ (by exact HF.out)) ?_; intro w4 hb4; have l4 : g < w4.heap.size := (Nat.lt_of_lt_of_le hg hb4.size); have l4d : d < w4.heap.size := (Nat.lt_of_lt_of_le hldr hb4.size); have m0 := (hb4.cell (p := ⟨d, 0, none⟩) hldr).trans c0; have m1 := (hb4.cell (p := ⟨g, k * 2, none⟩) hg).trans g1; have m2 := (hb4.cell (p := ⟨g, k * 2 + 1, none⟩) hg).trans g2; have m3 := (hb4.frozen (p := ⟨g, k * 2 + 1, none⟩) hg).trans gf1)
        | (refine step_app_row _ rfl (.tmp 24) (.tmp 36) rfl w4 base (.slice B L.length c') L y rfl rfl ⟨rfl, rfl, rfl, rfl⟩ (own_below HROW.out (below_undrew1 hb4)) (by omega) (by have := (below_undrew1 hb4).size; omega) ?_; intro g' cap w5 hown5 hg5 hbW5 hat5 hb5; have hbk5 := HGB.out _ _ _ (below_undrew1 hb4) hbW5 hg5; have n2 : w5.cell? ⟨g, k * 2 + 1, none⟩ = some (.slice B L.length c') := (World.cell?_of_block (w := wr) hbk5).trans g2; have n3 : w5.frozen? ⟨g, k * 2 + 1, none⟩ = false := (frozen_of_block hbk5).trans gf1))
      all_goals
        have HNX := deal_next hd (Nat.le_trans hbs hsz) HR.out hkS (by rw [stepT_len]; exact HFar.out) HF.out (fun bF off e => Nat.lt_of_lt_of_le (HFL.out bF off e) hsz) (below_undrew1 hb4) hbW5 (by rw [HE.out.2]; exact hown5) (by rw [HV2.out, HE.out.2]; exact hg5) (by rw [HV2.out, HE.out.2]; exact hat5) hb5
        rw [HE.out.1, HE.out.2, stepT_len, ← HSUC.out] at HNX
        have HNXH := Lib.hid HNX
        clear HNX hown5 hg5 hat5 n2 n3
        go_wp2_with fail
        go_roundw
        case rel => exact ⟨k + 1, _, _, by omega, by go_num, HNXH.out.1.trans HBX.out, HNXH.out.2.1, HNXH.out.2.2.1, HNXH.out.2.2.2.1, hb.trans HNXH.out.2.2.2.2⟩
        case measure => simp [intOf]; omega
    · obtain rfl : k = T.length := by omega
      have HX := Lib.hid (show DlrAt wr d base p n h (stepT p f T T.length) from ⟨hd, Nat.le_trans hbs hsz, _, H, hbox, hR⟩)
      clear hbox hR hF hFar
      go_wp2_with fail
      (try simp only [Exit.inBlock, Exit.then])
      refine bodyPost_end (results_none rfl _ _ _) rfl ?_
      exact ⟨rfl, HX.out, hb⟩
end Go.Proofs.YtkjpnhhkebbmdaaDoor
