/-
  Shares: a dealer deals an element.
  Shares: what is dealt.
  Shares: Deal.
  Shares: copies.
  Shares: plans of dice; lists in another order.
  Shares that lie on polynomials: they are good, give the values at 0, and fit; dealt shares; the sanity check.
  Shares: what stands while dice are thrown.
  Conditions: those that each theorem names.
-/
import Derived.Test.YtlhipgejiacklaaDoorM4
import Derived.Deep.RegionLaw
import Derived.Conc.EntryLaws
import Derived.Deep.DeepCutAuto
import Derived.Laws.AppendOwnNone
import Derived.StillTailTactics
set_option linter.unusedVariables false
set_option linter.unusedSimpArgs false
namespace Go.Proofs.YtlhipgejiacklaaDoor
open Go.RowKit

theorem Rows2.grow {w W w' : World} {base g c : Nat} {H : List HV} {T : List ShN} (h : Rows2 w base (.slice (some ⟨g, 0, none⟩) H.length c) H T) (k : Nat) (hk : k < T.length) (y : Nat) (g' cap : Nat) (hW : Below w.heap.size w W)
    (hown : w'.ownsRow base 3 1 (.slice (some ⟨g', 0, none⟩) ((vN T k).length + 1) cap) ((vN T k).length + 1) (valsN (vN T k ++ [y]))) (hg : W.grownBy w' (hvAt H k).2.ownBlock) (hat : (hvAt H k).2.ownBlock = some g' ∨ g' = W.heap.size) :
    Rows2 (w'.setCell ⟨g, k * 2 + 1, none⟩ (.slice (some ⟨g', 0, none⟩) ((vN T k).length + 1) cap)) base (.slice (some ⟨g, 0, none⟩) H.length c) (H.set k ((hvAt H k).1, .slice (some ⟨g', 0, none⟩) ((vN T k).length + 1) cap)) (T.set k (hN T k, vN T k ++ [y])) := by
  have hl := h.len
  have hWs := hW.size
  have hgb : ∀ b, (Value.slice (some ⟨g, 0, none⟩) H.length c).ownBlock = some b → b = g := fun b e => (Option.some.inj (show some g = some b from e)).symm
  have hrg : ∀ j, j < T.length → ∀ b, (hvAt H j).2.ownBlock = some b → b ≠ g := fun j hj b e e2 => h.no j hj b e (by rw [e2]; rfl)
  have hW1 := h.below hW
  have hout := hW1.out.kept hg (by
    rcases he : (hvAt H k).2.ownBlock with _ | b
    · exact .inr (fun e => by cases e)
    · exact .inr (fun e => hrg k hk b he (Option.some.inj (show some g = some b from e)).symm))
  have hg'g : g' ≠ g := by
    rcases hat with e | e
    · exact hrg k hk g' e
    · have := (World.ownsRow.lt h.out g rfl).2; omega
  have hTs : ∀ j, j ≠ k → hN (T.set k (hN T k, vN T k ++ [y])) j = hN T j ∧ vN (T.set k (hN T k, vN T k ++ [y])) j = vN T j := fun j hj => by
    simp [hN, vN, List.getD_eq_getElem?_getD, List.getElem?_set_ne (Ne.symm hj)]
  have hTk : hN (T.set k (hN T k, vN T k ++ [y])) k = hN T k ∧ vN (T.set k (hN T k, vN T k ++ [y])) k = vN T k ++ [y] := by
    simp [hN, vN, List.getD_eq_getElem?_getD, hk]
  have hrows : ∀ j, j < T.length → j ≠ k → w'.ownsRow base 3 1 (hvAt H j).2 (vN T j).length (valsN (vN T j)) := fun j hj hjk => (hW1.row j hj).kept hg (by
    rcases he : (hvAt H j).2.ownBlock with _ | b
    · exact .inl rfl
    · exact .inr (fun e => h.ne j k hj hk hjk b he e.symm))
  have hbk : ∀ j, j < T.length → j ≠ k → ∀ b, (hvAt H j).2.ownBlock = some b → b ≠ g' := fun j hj hjk b e e2 => by
    rcases hat with e3 | e3
    · exact h.ne j k hj hk hjk b e (by rw [e3, e2])
    · have := (World.ownsRow.lt (h.row j hj) b e).2; omega
  have hs := hout.set1 k (by omega) (.slice (some ⟨g', 0, none⟩) ((vN T k).length + 1) cap)
  refine ⟨?_, by simp [hl], fun j hj => ?_, fun j hj => ?_, fun i j hi hj hij b e1 e2 => ?_, fun i hi b e1 e2 => ?_⟩
  · exact hs
  · simp only [List.length_set] at hj
    by_cases hjk : j = k
    · subst hjk; rw [hvAt_set_same _ _ _ (by omega), hTk.1]; exact h.hold j hj
    · rw [hvAt_set_other _ _ _ _ (Ne.symm hjk), (hTs j hjk).1]; exact h.hold j hj
  · simp only [List.length_set] at hj
    by_cases hjk : j = k
    · subst hjk
      rw [hvAt_set_same _ _ _ (by omega), hTk.2, List.length_append]
      exact own_other hown _ _ (fun b e => by
        have : g' = b := Option.some.inj (show some g' = some b from e)
        subst this; exact hg'g)
    · rw [hvAt_set_other _ _ _ _ (Ne.symm hjk), (hTs j hjk).2]
      exact own_other (hrows j hj hjk) _ _ (fun b e => hrg j hj b e)
  · simp only [List.length_set] at hi hj
    by_cases hik : i = k
    · subst hik
      rw [hvAt_set_same _ _ _ (by omega)] at e1
      rw [hvAt_set_other _ _ _ _ hij] at e2
      exact hbk j hj (Ne.symm hij) b e2 (Option.some.inj (show some g' = some b from e1)).symm
    · rw [hvAt_set_other _ _ _ _ (Ne.symm hik)] at e1
      by_cases hjk : j = k
      · subst hjk
        rw [hvAt_set_same _ _ _ (by omega)] at e2
        exact hbk i hi hik b e1 (Option.some.inj (show some g' = some b from e2)).symm
      · rw [hvAt_set_other _ _ _ _ (Ne.symm hjk)] at e2
        exact h.ne i j hi hj hij b e1 e2
  · simp only [List.length_set] at hi
    have hb := hgb b (by simpa using e2)
    by_cases hik : i = k
    · subst hik
      rw [hvAt_set_same _ _ _ (by omega)] at e1
      exact hg'g ((Option.some.inj (show some g' = some b from e1)).trans hb)
    · rw [hvAt_set_other _ _ _ _ (Ne.symm hik)] at e1
      exact hrg i hi b e1 hb

def stepT (p : Nat) (f : List Nat) (T : List ShN) (k : Nat) : List ShN := (List.range T.length).map fun j => (hN T j, if j < k then vN T j ++ [evN p f (hN T j)] else vN T j)
theorem stepT_len (p : Nat) (f : List Nat) (T : List ShN) (k : Nat) : (stepT p f T k).length = T.length := by simp [stepT]
theorem stepT_at {p : Nat} {f : List Nat} {T : List ShN} {k j : Nat} (hj : j < T.length) : hN (stepT p f T k) j = hN T j ∧ vN (stepT p f T k) j = if j < k then vN T j ++ [evN p f (hN T j)] else vN T j := by
  simp [stepT, hN, vN, List.getD_eq_getElem?_getD, hj]
theorem shl_ext {S T : List ShN} (hl : S.length = T.length) (h : ∀ k, k < S.length → hN S k = hN T k ∧ vN S k = vN T k) : S = T := by
  refine List.ext_getElem hl fun k h1 h2 => ?_
  rw [getD_at h1, getD_at h2, (h k h1).1, (h k h1).2]
theorem set_at {S : List ShN} {k a : Nat} {b : List Nat} (hk : k < S.length) : hN (S.set k (a, b)) k = a ∧ vN (S.set k (a, b)) k = b := by simp [hN, vN, List.getD_eq_getElem?_getD, hk]
theorem stepT_zero (p : Nat) (f : List Nat) (T : List ShN) : stepT p f T 0 = T :=
  shl_ext (stepT_len _ _ _ _) fun k hk => by
    rw [stepT_len] at hk
    obtain ⟨e1, e2⟩ := stepT_at (p := p) (f := f) (k := 0) hk
    rw [e1, e2, if_neg (by omega)]; exact ⟨rfl, rfl⟩
theorem stepT_succ {p : Nat} {f : List Nat} {T : List ShN} {k : Nat} (hk : k < T.length) :
    stepT p f T (k + 1) = (stepT p f T k).set k (hN (stepT p f T k) k, vN (stepT p f T k) k ++ [evN p f (hN (stepT p f T k) k)]) := by
  refine shl_ext (by simp [stepT_len]) fun j hj => ?_
  rw [stepT_len] at hj
  obtain ⟨e1, e2⟩ := stepT_at (p := p) (f := f) (k := k + 1) hj
  obtain ⟨e3, e4⟩ := stepT_at (p := p) (f := f) (k := k) hj
  obtain ⟨e5, e6⟩ := stepT_at (p := p) (f := f) (k := k) hk
  rw [e1, e2]
  by_cases hjk : j = k
  · subst hjk
    have hs := set_at (S := stepT p f T j) (k := j) (a := hN (stepT p f T j) j) (b := vN (stepT p f T j) j ++ [evN p f (hN (stepT p f T j) j)]) (by rw [stepT_len]; exact hj)
    rw [hs.1, hs.2, e5, e6, if_pos (by omega), if_neg (by omega)]
    exact ⟨rfl, rfl⟩
  · have : hN ((stepT p f T k).set k (hN (stepT p f T k) k, vN (stepT p f T k) k ++ [evN p f (hN (stepT p f T k) k)])) j = hN (stepT p f T k) j ∧ vN ((stepT p f T k).set k (hN (stepT p f T k) k, vN (stepT p f T k) k ++ [evN p f (hN (stepT p f T k) k)])) j = vN (stepT p f T k) j := by
      simp [hN, vN, List.getD_eq_getElem?_getD, List.getElem?_set_ne (Ne.symm hjk)]
    rw [this.1, this.2, e3, e4]
    refine ⟨rfl, ?_⟩
    by_cases h1 : j < k
    · rw [if_pos h1, if_pos (by omega)]
    · rw [if_neg h1, if_neg (by omega)]
/-- The polynomial's list lies in none of the rows. -/
def FarF (F : Option Addr) (v : Value) (H : List HV) (m : Nat) : Prop := ∀ bF off, F = some ⟨bF, off, none⟩ → (∀ i, i < m → ∀ b, (hvAt H i).2.ownBlock = some b → b ≠ bF) ∧ ∀ b, v.ownBlock = some b → b ≠ bF
theorem NatsAt.keepF {w w' : World} {A : Option Addr} {L : List Nat} (h : NatsAt w A L) (hs : w.heap.size ≤ w'.heap.size) (hb : ∀ b off, A = some ⟨b, off, none⟩ → b < w.heap.size → w'.heap[b]? = w.heap[b]?) : NatsAt w' A L := fun k hk => by
  obtain ⟨b, off, hA, hlt, hc⟩ := h k hk
  exact ⟨b, off, hA, Nat.lt_of_lt_of_le hlt hs, (World.cell?_of_block (w := w) (hb b off hA hlt)).trans hc⟩
theorem Rows2.slot {w : World} {base : Nat} {v : Value} {H : List HV} {T : List ShN} (h : Rows2 w base v H T) {k : Nat} (hk : k < T.length) :
    ∃ g c B c', v = .slice (some ⟨g, 0, none⟩) H.length c ∧ (hvAt H k).2 = .slice B (vN T k).length c' ∧ g < w.heap.size ∧ base ≤ g ∧ w.cell? ⟨g, k * 2, none⟩ = some (.int .i64 (hN T k : Nat)) ∧ w.cell? ⟨g, k * 2 + 1, none⟩ = some (.slice B (vN T k).length c') ∧ ∀ j, w.frozen? ⟨g, j, none⟩ = false := by
  obtain ⟨g, c, hv, hg, hbg, -, -, hcell, hfr⟩ := h.out.form (by rw [h.len]; omega)
  obtain ⟨B, c', hv2, -⟩ := own_sl (h.row k hk) rfl
  obtain ⟨c1, c2⟩ := hcell k (by rw [h.len]; exact hk)
  exact ⟨g, c, B, c', hv, hv2, hg, hbg, by rw [c1, h.hold k hk], by rw [c2, hv2], hfr⟩
theorem grown_blk {wr w4 W w5 : World} {g : Nat} {r : Option Nat} (hg : g < wr.heap.size) (hb4 : Below wr.heap.size wr w4) (hbW : Below w4.heap.size w4 W) (hg5 : W.grownBy w5 r) (hne : some g ≠ r) : w5.heap[g]? = wr.heap[g]? :=
  (hg5.block g (Nat.lt_of_lt_of_le hg (Nat.le_trans hb4.size hbW.size)) hne).trans ((hbW.block g (Nat.lt_of_lt_of_le hg hb4.size)).trans (hb4.block g hg))
theorem frozen_of_block {w w' : World} {b o : Nat} (h : w'.heap[b]? = w.heap[b]?) : w'.frozen? ⟨b, o, none⟩ = w.frozen? ⟨b, o, none⟩ := by unfold World.frozen?; simp only; rw [h]
theorem deal_next {wr w4 W w5 : World} {base d g c k y g' cap : Nat} {H : List HV} {S : List ShN} {F : Option Addr} {f : List Nat} (hd : d < base) (hbase : base ≤ wr.heap.size)
    (hR : Rows2 wr base (.slice (some ⟨g, 0, none⟩) H.length c) H S) (hk : k < S.length) (hFar : FarF F (.slice (some ⟨g, 0, none⟩) H.length c) H S.length) (hF : NatsAt wr F f) (hFlt : ∀ bF off, F = some ⟨bF, off, none⟩ → bF < wr.heap.size)
    (hb4 : Below wr.heap.size wr w4) (hbW : Below w4.heap.size w4 W) (hown : w5.ownsRow base 3 1 (.slice (some ⟨g', 0, none⟩) ((vN S k).length + 1) cap) ((vN S k).length + 1) (valsN (vN S k ++ [y])))
    (hg5 : W.grownBy w5 (hvAt H k).2.ownBlock) (hat : (hvAt H k).2.ownBlock = some g' ∨ g' = W.heap.size) (hb5 : Below base w4 w5) :
    (w5.setCell ⟨g, k * 2 + 1, none⟩ (.slice (some ⟨g', 0, none⟩) ((vN S k).length + 1) cap)).heap[d]? = wr.heap[d]? ∧
    Rows2 (w5.setCell ⟨g, k * 2 + 1, none⟩ (.slice (some ⟨g', 0, none⟩) ((vN S k).length + 1) cap)) base (.slice (some ⟨g, 0, none⟩) H.length c) (H.set k ((hvAt H k).1, .slice (some ⟨g', 0, none⟩) ((vN S k).length + 1) cap)) (S.set k (hN S k, vN S k ++ [y])) ∧
    FarF F (.slice (some ⟨g, 0, none⟩) H.length c) (H.set k ((hvAt H k).1, .slice (some ⟨g', 0, none⟩) ((vN S k).length + 1) cap)) S.length ∧
    NatsAt (w5.setCell ⟨g, k * 2 + 1, none⟩ (.slice (some ⟨g', 0, none⟩) ((vN S k).length + 1) cap)) F f ∧
    Below base wr (w5.setCell ⟨g, k * 2 + 1, none⟩ (.slice (some ⟨g', 0, none⟩) ((vN S k).length + 1) cap)) := by
  have hgb := (World.ownsRow.lt hR.out g rfl)
  have hl := hR.len
  refine ⟨?_, (hR.below hb4).grow k hk y g' cap hbW hown hg5 hat, fun bF off e => ⟨fun i hi b e2 => ?_, fun b e2 => (hFar bF off e).2 b e2⟩, ?_, ?_⟩
  · rw [Below.heap_setCell _ _ _ _ (by simp; omega), hb5.block d hd, hb4.block d (by omega)]
  · by_cases hik : i = k
    · subst hik
      rw [hvAt_set_same _ _ _ (by omega)] at e2
      have hb : g' = b := Option.some.inj (show some g' = some b from e2)
      subst hb
      rcases hat with e3 | e3
      · exact (hFar bF off e).1 i hi g' e3
      · have h1 := hFlt bF off e
        have h2 := hb4.size
        have h3 := hbW.size
        omega
    · rw [hvAt_set_other _ _ _ _ (Ne.symm hik)] at e2
      exact (hFar bF off e).1 i hi b e2
  · refine hF.keepF (by have := hb4.size; have := hbW.size; have := hg5.size; simp [World.setCell]; omega) fun bF off e hlt => ?_
    have h1 := (hFar bF off e).2 g rfl
    rw [Below.heap_setCell _ _ _ _ (by simp; omega)]
    exact grown_blk hlt hb4 hbW hg5 (fun e2 => (hFar bF off e).1 k hk bF e2.symm rfl)
  · exact ((hb4.mono hbase).trans hb5).setCell (by simp; omega) _
/-- append of one number onto a row of the own, in a region that draws. -/
theorem step_app_row {ops : Array Oper} {o : Oper} {a : Act} {K : Act → World → Prop} {Q : Exit → Act → World → Prop} {E : Prop} (W : World) (hgd : o.guard = none) (s x : Operand)
    (ho : o.op = .call { callee := .builtin .append, args := #[s, x], argTypes := #[22, 22] })
    (w5 : World) (base : Nat) (v : Value) (S : List Nat) (y : Nat) (hs : a.eval s = v) (hx : a.eval x = .slice (some ⟨w5.heap.size, 0, none⟩) 1 1)
    (hW : W.heap = (w5.alloc (.cells #[.int .i64 (y : Int)] 3)).heap ∧ W.os = w5.os ∧ W.tape = w5.tape ∧ W.output = w5.output)
    (hown : w5.ownsRow base 3 1 v S.length (valsN S)) (hl : S.length ≤ 4194304) (hbase : base ≤ w5.heap.size)
    (h : ∀ g cap w', w'.ownsRow base 3 1 (.slice (some ⟨g, 0, none⟩) (S.length + 1) cap) (S.length + 1) (valsN (S ++ [y])) → W.grownBy w' v.ownBlock → Below w5.heap.size w5 W → (v.ownBlock = some g ∨ g = W.heap.size) → Below base w5 w' → K (a.put o.dst (.slice (some ⟨g, 0, none⟩) (S.length + 1) cap)) w') :
    if Region.wanted o (yielded ops a.tmps) = true then Oper.wp Tryd.prog o a W K Q else E := by
  obtain ⟨i0, hi, hz0, hz1, hz2⟩ := info_parts info_int
  have hownW : W.ownsRow base 3 1 v S.length (valsN S) := by
    obtain ⟨h1, h2⟩ := own_below hown (below_alloc w5 (.cells #[.int .i64 (y : Int)] 3))
    refine ⟨h1, ?_⟩
    rw [hW.1]; exact h2
  have hsz : W.heap.size = w5.heap.size + 1 := by rw [hW.1]; simp
  have hcell : ∀ x, W.cell? x = (w5.alloc (.cells #[.int .i64 (y : Int)] 3)).cell? x := fun x => by unfold World.cell?; rw [hW.1]
  refine step_append_lies _ hgd s x 22 ho base 3 i0 _ 1 8 Tryd.underlying22 hi hz0 hz1 hz2 rfl (by omega) v S.length (valsN S) hs hownW ⟨w5.heap.size, 0, none⟩ 1 1 (valsN [y]) hx rfl (fun j u hu => (hcell _).trans ((lit1_nats w5 y).nats.news rfl j u hu)) (valsN_one [y]) (by omega) (by unfold maxLen; omega) (by omega) (by omega) _ rfl ?_
  intro g cap w' ho' hg hat _
  have hbW : Below w5.heap.size w5 W := ⟨hW.2.1, hW.2.2.1, hW.2.2.2, by omega, fun k hk => by rw [hW.1]; exact heap_alloc_old w5 _ hk⟩
  refine h g cap w' ?_ hg hbW hat ((hbW.mono hbase).trans ((Below.refl _ _).grown hg (by omega) (fun k hk => by have := (hown.lt k hk).1; omega)))
  simpa [valsN] using ho'

/-- A call of a function by its contract, in a region that draws. -/
theorem step_call {ops : Array Oper} {o : Oper} {a : Act} {K : Act → World → Prop} {Q : Exit → Act → World → Prop} {E : Prop} {R : Ending → World → Prop} (W : World) (hgd : o.guard = none) (fid : FuncId) (xs : Array Operand) (ts : Array TypeId)
    (ho : o.op = .call { callee := .value (.func fid), args := xs, argTypes := ts }) (hen : ∀ args w, (callFunc fid args).run Tryd.prog w = .ok (.enter fid args) w) (args : Array Value) (ha : xs.map a.eval = args)
    (hc : Calls Tryd.prog fid args W R) (h : ∀ e w', R e w' → ∃ v, e = .returned v ∧ K (a.put o.dst v) w') :
    if Region.wanted o (yielded ops a.tmps) = true then Oper.wp Tryd.prog o a W K Q else E := by
  have hw : Region.wanted o (yielded ops a.tmps) = true := by simp [Region.wanted, hgd]
  rw [if_pos hw]
  have hcl : (execOp a.eval o).run Tryd.prog W = .ok (.enter fid args) W := by
    rw [Go.Conc.execOp_call_func ho, hen, ha]
  unfold Oper.wp
  rw [hcl]
  refine Calls.mono hc ?_
  intro e w' hr
  obtain ⟨v, rfl, hk⟩ := h e w' hr
  exact hk
theorem enter_eval (args : Array Value) (w : World) : (callFunc 104 args).run Tryd.prog w = .ok (.enter 104 args) w :=
  Go.MuLone.run_callFunc_enter Tryd.func104 (by kernel_rfl) rfl args w
theorem step_evalC {ops : Array Oper} {o : Oper} {a : Act} {K : Act → World → Prop} {Q : Exit → Act → World → Prop} {E : Prop} {p y x : Nat} {F : Option Addr} {cf m : Nat} (W : World) (hgd : o.guard = none) (s1 s2 s3 : Operand) (ts : Array TypeId)
    (ho : o.op = .call { callee := .value (.func 104), args := #[s1, s2, s3], argTypes := ts }) (h1 : a.eval s1 = .int .i64 (p : Int)) (h2 : a.eval s2 = .slice F m cf) (h3 : a.eval s3 = .int .i64 (x : Int))
    (hc : Calls Tryd.prog 104 #[.int .i64 (p : Int), .slice F m cf, .int .i64 (x : Int)] W (RetB (.int .i64 (y : Int)) W)) (h : ∀ w', Below W.heap.size W w' → K (a.put o.dst (.int .i64 (y : Int))) w') :
    if Region.wanted o (yielded ops a.tmps) = true then Oper.wp Tryd.prog o a W K Q else E :=
  step_call W hgd _ _ ts ho enter_eval _ (by simp [h1, h2, h3]) hc (fun e w' hr => by obtain ⟨rfl, hb⟩ := hr; exact ⟨_, rfl, h w' hb⟩)

set_option maxRecDepth 100000 in
set_option maxHeartbeats 4000000 in
theorem deal_any (d base p : Nat) (n h : Int) (T : List ShN) (F : Option Addr) (cf : Nat) (f : List Nat) (w : World) (v0 : Value) (H0 : List HV) (hd : d < base) (hbs : base ≤ w.heap.size)
    (hbox : w.heap[d]? = some (.cells #[.int .i64 (p : Int), .int .i64 n, .int .i64 h, v0] 94 (0, 0))) (hR : Rows2 w base v0 H0 T) (hF : NatsAt w F f) (hFar : FarF F v0 H0 T.length)
    (hFlt : ∀ bF off, F = some ⟨bF, off, none⟩ → bF < w.heap.size)
    (hp : 1 ≤ p) (hp2 : p ≤ 2147483648) (hf : ∀ x ∈ f, x < p) (hh : ∀ k, k < T.length → hN T k < p) (hfl : f.length ≤ 1048576) (htl : T.length ≤ 1000) (hvl : ∀ k, k < T.length → (vN T k).length ≤ 1048576) :
    Calls Tryd.prog 85 #[.pointer (some ⟨d, 0, none⟩), .slice F f.length cf] w
      (fun e w' => e = .returned (.tuple #[]) ∧ DlrAt w' d base p n h (stepT p f T T.length) ∧ Below base w w') := by
  have HF0 := Lib.hid hF
  have HFL := Lib.hid hFlt
  have HPF := Lib.hid hf
  have HH := Lib.hid hh
  have HVL := Lib.hid hvl
  have HR0 := Lib.hid hR
  have HFar0 := Lib.hid hFar
  have HBX0 := Lib.hid hbox
  obtain ⟨b0, b3, bf⟩ := dlr_box hbox
  have hld := blk_lt hbox
  obtain ⟨V0, cv0, rfl, -⟩ := hR.read
  clear hF hFlt hf hh hvl hR hFar hbox bf
  go_enter Tryd.func85, Tryd.ntmps85
  go_wp2_with fail
  go_loopw [11] (fun i wr => ∃ (k : Nat) (v : Value) (H : List HV), k ≤ T.length ∧ i = .int .i64 k ∧ wr.heap[d]? = some (.cells #[.int .i64 (p : Int), .int .i64 n, .int .i64 h, v] 94 (0, 0)) ∧ Rows2 wr base v H (stepT p f T k) ∧ FarF F v H T.length ∧ NatsAt wr F f ∧ Below base w wr) (fun i _ => T.length - (intOf i).toNat)
  case atStart => exact ⟨0, _, _, Nat.zero_le _, rfl, HBX0.out, by rw [stepT_zero]; exact HR0.out, HFar0.out, HF0.out, Below.refl _ _⟩
  case round =>
    obtain ⟨k, v, H, hk, rfl, hbox, hR, hFar, hF, hb⟩ := hrel
    have hsz := hb.size
    obtain ⟨c0, c3, cf0⟩ := dlr_box hbox
    have hldr := blk_lt hbox
    clear b0 b3
    by_cases hlt : k < T.length
    · have hkS : k < (stepT p f T k).length := by rw [stepT_len]; exact hlt
      obtain ⟨g, c, B, c', rfl, hv2, hg, hbg, g1, g2, gf⟩ := hR.slot hkS
      have HROW := Lib.hid (hR.row k hkS)
      have HR := Lib.hid hR
      have HSUC := Lib.hid (stepT_succ (p := p) (f := f) hlt)
      obtain ⟨e1, e2⟩ := stepT_at (p := p) (f := f) (k := k) hlt
      rw [if_neg (by omega)] at e2
      have hxp := HH.out k hlt
      have hvk := HVL.out k hlt
      have gf1 := gf (k * 2 + 1)
      rw [hv2] at HROW
      have HV2 := Lib.hid hv2
      have hHl : H.length = T.length := by rw [hR.len, stepT_len]
      have HFar := Lib.hid hFar
      have HF := Lib.hid hF
      have HBX := Lib.hid hbox
      have HTL := Lib.hid hHl
      have i1 : (0 : Int) ≤ (k : Int) := by omega
      have i2 : (k : Int) < (H.length : Int) := by omega
      rw [e2] at HROW g2
      rw [e1] at g1
      rw [e1, e2] at HSUC
      have hlv : (vN T k).length ≤ 1048576 := hvk
      have HE := Lib.hid (And.intro e1 e2)
      have hev := evN_lt hp f (hN T k)
      clear hR hFar hF hbox gf cf0 hv2 e1 e2 hHl
      generalize hx : hN T k = x at *
      generalize hL : vN T k = L at *
      have HXL := Lib.hid (And.intro hx hL)
      have HGB := Lib.hid (fun (w4 W w5 : World) (h1 : Below wr.heap.size wr w4) (h2 : Below w4.heap.size w4 W) (h3 : W.grownBy w5 (Value.slice B L.length c').ownBlock) => grown_blk (g := g) hg h1 h2 h3 (fun e => HR.out.no k hkS g (by rw [HV2.out, HE.out.2]; exact e.symm) rfl))
      have HEV := Lib.hid (fun (W : World) (hW : NatsAt W F f) => eval_any p x F f cf W hp hp2 hxp HPF.out hW (by omega))
      generalize evN p f x = y at *
      clear hx hL
      go_wp2_with fail
      go_region_law (first
        | (refine step_evalC _ rfl (.tmp 29) (.tmp 30) (.tmp 34) _ rfl rfl rfl rfl (HEV.out _ (by exact HF.out)) ?_; intro w4 hb4; have l4 : g < w4.heap.size := (Nat.lt_of_lt_of_le hg hb4.size); have l4d : d < w4.heap.size := (Nat.lt_of_lt_of_le hldr hb4.size); have m0 := (hb4.cell (p := ⟨d, 0, none⟩) hldr).trans c0; have m1 := (hb4.cell (p := ⟨g, k * 2, none⟩) hg).trans g1; have m2 := (hb4.cell (p := ⟨g, k * 2 + 1, none⟩) hg).trans g2; have m3 := (hb4.frozen (p := ⟨g, k * 2 + 1, none⟩) hg).trans gf1)
        | (refine step_app_row _ rfl (.tmp 24) (.tmp 36) rfl w4 base (.slice B L.length c') L y rfl rfl ⟨rfl, rfl, rfl, rfl⟩ (own_below HROW.out (below_undrew1 hb4)) (by omega) (by have := (below_undrew1 hb4).size; omega) ?_; intro g' cap w5 hown5 hg5 hbW5 hat5 hb5; have hbk5 := HGB.out _ _ _ (below_undrew1 hb4) hbW5 hg5; have n2 : w5.cell? ⟨g, k * 2 + 1, none⟩ = some (.slice B L.length c') := (World.cell?_of_block (w := wr) hbk5).trans g2; have n3 : w5.frozen? ⟨g, k * 2 + 1, none⟩ = false := (frozen_of_block hbk5).trans gf1))
      all_goals
        have HNX := deal_next hd (Nat.le_trans hbs hsz) HR.out hkS (by rw [stepT_len]; exact HFar.out) HF.out (fun bF off e => Nat.lt_of_lt_of_le (HFL.out bF off e) hsz) (below_undrew1 hb4) hbW5 (by rw [HE.out.2]; exact hown5) (by rw [HV2.out, HE.out.2]; exact hg5) (by rw [HV2.out, HE.out.2]; exact hat5) hb5
        rw [HE.out.1, HE.out.2, stepT_len, ← HSUC.out] at HNX
        have HNXH := Lib.hid HNX
        clear HNX hown5 hg5 hat5 n2 n3
        go_wp2_with fail
        go_roundw
        case rel => exact ⟨k + 1, _, _, by omega, by go_num, HNXH.out.1.trans HBX.out, HNXH.out.2.1, HNXH.out.2.2.1, HNXH.out.2.2.2.1, hb.trans HNXH.out.2.2.2.2⟩
        case measure => simp [intOf]; omega
    · obtain rfl : k = T.length := by omega
      have HX := Lib.hid (show DlrAt wr d base p n h (stepT p f T T.length) from ⟨hd, Nat.le_trans hbs hsz, _, H, hbox, hR⟩)
      clear hbox hR hF hFar
      go_wp2_with fail
      (try simp only [Exit.inBlock, Exit.then])
      refine bodyPost_end (results_none rfl _ _ _) rfl ?_
      exact ⟨rfl, HX.out, hb⟩
end Go.Proofs.YtlhipgejiacklaaDoor
namespace Go.Proofs.YtlhipgejiacklaaDoor
open Go.RowKit

/-- append of a slice, nil or not, onto a row of the own. -/
theorem app_sl {ops : Array Oper} {rest : List Oper} {o : Oper} {a : Act} {Q : Exit → Act → World → Prop} (hgd : o.guard = none) (s x : Operand)
    (ho : o.op = .call { callee := .builtin .append, args := #[s, x], argTypes := #[22, 22] })
    {base : Nat} {w : World} {v : Value} {S : List Nat} (T : List Nat) (ad : Option Addr) (c : Nat) (hs : a.eval s = v) (hown : w.ownsRow base 3 1 v S.length (valsN S))
    (hx : a.eval x = .slice ad T.length c) (hT : NatsAt w ad T) (hN : ad = none → T.length = 0 ∧ c = 0) (hsp : T.length = 0 ∨ ∀ a, ad = some a → a.spot = none) (hl : S.length + T.length ≤ 4294967296) (hbase : base ≤ w.heap.size)
    (h : ∀ v' w', w'.ownsRow base 3 1 v' (S ++ T).length (valsN (S ++ T)) → Below base w w' → wpList Tryd.prog ops Q rest (a.put o.dst v') w') :
    wpList Tryd.prog ops Q (o :: rest) a w := by
  obtain ⟨i0, hi, hz0, hz1, hz2⟩ := info_parts info_int
  rcases ad with _ | ad
  · obtain ⟨h1, rfl⟩ := hN rfl
    have : T = [] := List.eq_nil_of_length_eq_zero h1
    subst this
    refine wpList_append_own_none hgd s x 22 ho base 3 i0 1 Tryd.underlying22 hi v S.length (valsN S) hs hown hx ?_
    exact h v w (by rw [List.append_nil]; exact hown) (Below.refl _ _)
  · refine app_nats hgd s x ho hs hown hx ?_ hl hbase fun v' w' h1 _ h3 => h v' w' h1 h3
    rcases hsp with h0 | h0
    · have : T = [] := List.eq_nil_of_length_eq_zero h0
      subst this
      intro j u hj; simp at hj
    · exact hT.news (h0 ad rfl)

def polN (sec ran : List Nat) (k i : Nat) : List Nat := [nthN sec i] ++ (ran.drop (i * k)).take k
def dealtT (p h : Nat) (sec ran : List Nat) (k m : Nat) : List ShN := (List.range h).map fun j => (j + 1, (List.range m).map fun i => evN p (polN sec ran k i) (j + 1))
theorem dealtT_len (p h : Nat) (sec ran : List Nat) (k m : Nat) : (dealtT p h sec ran k m).length = h := by simp [dealtT]
theorem dealtT_at {p h : Nat} {sec ran : List Nat} {k m j : Nat} (hj : j < h) : hN (dealtT p h sec ran k m) j = j + 1 ∧ vN (dealtT p h sec ran k m) j = (List.range m).map fun i => evN p (polN sec ran k i) (j + 1) := by
  simp [dealtT, hN, vN, List.getD_eq_getElem?_getD, hj]
theorem dealtT_zero (p h : Nat) (sec ran : List Nat) (k : Nat) : dealtT p h sec ran k 0 = emptyT h := by simp [dealtT, emptyT]
theorem dealtT_succ (p h : Nat) (sec ran : List Nat) (k m : Nat) : stepT p (polN sec ran k m) (dealtT p h sec ran k m) (dealtT p h sec ran k m).length = dealtT p h sec ran k (m + 1) := by
  refine shl_ext (by rw [stepT_len, dealtT_len, dealtT_len]) fun j hj => ?_
  rw [stepT_len, dealtT_len] at hj
  obtain ⟨e1, e2⟩ := stepT_at (p := p) (f := polN sec ran k m) (T := dealtT p h sec ran k m) (k := (dealtT p h sec ran k m).length) (j := j) (by rw [dealtT_len]; exact hj)
  rw [if_pos (by rw [dealtT_len]; exact hj)] at e2
  obtain ⟨e3, e4⟩ := dealtT_at (p := p) (sec := sec) (ran := ran) (k := k) (m := m) hj
  obtain ⟨e5, e6⟩ := dealtT_at (p := p) (sec := sec) (ran := ran) (k := k) (m := m + 1) hj
  rw [e1, e2, e3, e4, e5, e6, List.range_succ, List.map_append]
  exact ⟨rfl, rfl⟩
theorem polN_len {sec ran : List Nat} {k i : Nat} : (polN sec ran k i).length ≤ k + 1 := by
  unfold polN; rw [List.length_append, List.length_take]; simp; omega
theorem polN_lt {p : Nat} (hp : 1 ≤ p) {sec ran : List Nat} (h1 : ∀ x ∈ sec, x < p) (h2 : ∀ x ∈ ran, x < p) (k i : Nat) : ∀ x ∈ polN sec ran k i, x < p := by
  unfold polN
  refine app_lt (fun x hx => ?_) (fun x hx => h2 x (List.mem_of_mem_drop (List.mem_of_mem_take hx)))
  simp at hx; subst hx; exact nthN_lt hp h1 i
/-- The shares of a secret. -/
def dealN (p n h : Nat) (sec ran : List Nat) : List ShN := dealtT p h sec ran (n - 1) sec.length
def dlE (p n h : Int) (sec ran : List Int) : Int := if plB p n h = true then (if 2048 < sec.length then 3 else if inside p sec = true ∧ inside p ran = true ∧ (ran.length : Int) = sec.length * (n - 1) then 0 else 2) else 1
def dlL (p n h : Int) (sec ran : List Int) : List ShN := if dlE p n h sec ran = 0 then dealN p.toNat n.toNat h.toNat (sec.map Int.toNat) (ran.map Int.toNat) else []
theorem dlL_no {p n h : Int} {sec ran : List Int} (H : dlE p n h sec ran ≠ 0) : dlL p n h sec ran = [] := by unfold dlL; rw [if_neg H]
theorem dlE_pl {p n h : Int} {sec ran : List Int} (H : plB p n h = false) : dlE p n h sec ran = 1 := by unfold dlE; rw [H]; rfl
theorem dlE_big {p n h : Int} {sec ran : List Int} (H : plB p n h = true) (H2 : 2048 < sec.length) : dlE p n h sec ran = 3 := by unfold dlE; rw [if_pos H, if_pos H2]
theorem dlE_bad {p n h : Int} {sec ran : List Int} (H : plB p n h = true) (H2 : ¬ 2048 < sec.length) (H3 : ¬ (inside p sec = true ∧ inside p ran = true ∧ (ran.length : Int) = sec.length * (n - 1))) : dlE p n h sec ran = 2 := by unfold dlE; rw [if_pos H, if_neg H2, if_neg H3]
theorem dlE_ok {p n h : Int} {sec ran : List Int} (H : plB p n h = true) (H2 : ¬ 2048 < sec.length) (H3 : inside p sec = true ∧ inside p ran = true ∧ (ran.length : Int) = sec.length * (n - 1)) : dlE p n h sec ran = 0 := by unfold dlE; rw [if_pos H, if_neg H2, if_pos H3]

theorem prod_bd {c n : Int} (h1 : 0 ≤ c) (h2 : c ≤ 1048576) (h3 : 1 ≤ n) (h4 : n ≤ 1048576) : 0 ≤ c * (n - 1) ∧ c * (n - 1) ≤ 1099511627776 := by
  constructor
  · exact Int.mul_nonneg h1 (by omega)
  · have := Int.mul_le_mul h2 (show n - 1 ≤ 1048576 by omega) (by omega) (by omega)
    omega
set_option maxHeartbeats 400000 in
theorem random_any (p n h c : Int) (w : World) (h1 : 0 ≤ c) (h2 : c ≤ 1048576) (h3 : 1 ≤ n) (h4 : n ≤ 1048576) :
    Calls Tryd.prog 83 #[planV p n h, .int .i64 c] w (RetB (.int .i64 (c * (n - 1))) w) := by
  obtain ⟨b1, b2⟩ := prod_bd h1 h2 h3 h4
  go_enter Tryd.func83, Tryd.ntmps83
  go_wp2_with fail
  go_ret
  exact RetB.int rfl (below_alloc _ _)
set_option maxHeartbeats 400000 in
theorem refRandom_any (p n h c : Int) (w : World) (h1 : 0 ≤ c) (h2 : c ≤ 1048576) (h3 : 1 ≤ n) (h4 : n ≤ 1048576) :
    Calls Tryd.prog 22 #[planV p n h, .int .i64 c] w (RetB (.int .i64 (c * (n - 1))) w) := by
  obtain ⟨b1, b2⟩ := prod_bd h1 h2 h3 h4
  go_enter Tryd.func22, Tryd.ntmps22
  go_wp2_with fail
  go_ret
  exact RetB.int rfl (below_alloc _ _)
end Go.Proofs.YtlhipgejiacklaaDoor
namespace Go.Proofs.YtlhipgejiacklaaDoor
open Go.RowKit

theorem plan_nat {p n h : Int} (H : PlanP p n h) (hv : primeV p = validI p) : ∃ q n' h' : Nat, p = (q : Int) ∧ n = (n' : Int) ∧ h = (h' : Int) ∧ PrimeN q ∧ q ≤ 1073741824 ∧ 1 ≤ n' ∧ n' ≤ h' ∧ h' ≤ 16 ∧ h' < q := by
  obtain ⟨q, rfl, hq, hq2⟩ := plan_prime H hv
  obtain ⟨l1, l2, l3, l4, -⟩ := H
  exact ⟨q, n.toNat, h.toNat, rfl, by omega, by omega, hq, hq2, by omega, by omega, by omega, by omega⟩
theorem part_bd {i k m : Nat} (hi : i < m) : i * k + k ≤ m * k := by
  have := Nat.mul_le_mul_right k (show i + 1 ≤ m by omega)
  rw [Nat.add_mul, Nat.one_mul] at this; exact this
theorem NatsAt.dropAt {w : World} {b off : Nat} {L : List Nat} (h : NatsAt w (some ⟨b, off, none⟩) L) (i : Nat) : NatsAt w (some ⟨b, off + i, none⟩) (L.drop i) := fun k hk => by
  rw [List.length_drop] at hk
  obtain ⟨b', off', e, hb, hc⟩ := h (i + k) (by omega)
  injection e with e; injection e with e1 e2; subst e1; subst e2
  refine ⟨b, off + i, rfl, hb, ?_⟩
  rw [show off + i + k = off + (i + k) by omega, hc]
  simp [nthN, List.getD_eq_getElem?_getD]
theorem nats_take {w : World} {A : Option Addr} {L : List Nat} (h : NatsAt w A L) (k : Nat) : NatsAt w A (L.take k) := h.take k
/-- A part of the random numbers, as a slice. -/
theorem part_at {w : World} {B : Option Addr} {c lo k : Nat} {ran : List Nat} (h : NatsAt w B ran) (hok : IOK B c ran.length) (hlo : lo + k ≤ ran.length) :
    ∃ ad, sliced B lo (lo + k) c 1 = .slice ad ((ran.drop lo).take k).length (c - lo) ∧ NatsAt w ad ((ran.drop lo).take k) ∧ (ad = none → ((ran.drop lo).take k).length = 0 ∧ c - lo = 0) ∧ (((ran.drop lo).take k).length = 0 ∨ ∀ a, ad = some a → a.spot = none) := by
  have hlen : ((ran.drop lo).take k).length = k := by rw [List.length_take, List.length_drop]; omega
  rw [hlen]
  have hcl := hok.len
  rcases Nat.eq_zero_or_pos k with h0 | h0
  · subst h0
    unfold sliced
    refine ⟨if c = lo then B else B.map (·.add (lo * 1)), by simp, by rw [show (ran.drop lo).take 0 = [] from rfl]; exact NatsAt.nil _ _, fun e => ⟨rfl, ?_⟩, .inl rfl⟩
    by_cases hc : c = lo
    · omega
    · rw [if_neg hc] at e
      have : B = none := by cases B with
        | none => rfl
        | some a => cases e
      have := hok.nil this; omega
  · have hne : ¬ c = lo := by omega
    obtain ⟨b, off, rfl, hb, hc⟩ := h lo (by omega)
    unfold sliced
    rw [if_neg hne, Nat.mul_one]
    have hadd : (⟨b, off, none⟩ : Addr).add lo = ⟨b, off + lo, none⟩ := by
      unfold Addr.add; split
      · rename_i h; subst h; rfl
      · rfl
    refine ⟨some ⟨b, off + lo, none⟩, ?_, (h.dropAt lo).take k, (fun e => by cases e), .inr (fun a e => by injection e with e; subst e; rfl)⟩
    simp only [Option.map_some, hadd]
    rw [show lo + k - lo = k by omega]
theorem DlrAt.below {w w' : World} {d base : Nat} {p n h : Int} {T : List ShN} (H : DlrAt w d base p n h T) (hb : Below w.heap.size w w') : DlrAt w' d base p n h T := by
  obtain ⟨h1, h2, v, H', h3, h4⟩ := H
  exact ⟨h1, Nat.le_trans h2 hb.size, v, H', (hb.block d (by omega)).trans h3, h4.below hb⟩

theorem deal_go {wr w6 : World} {d base p k h0 : Nat} {n h : Int} {sec ran : List Nat} {m : Nat} (hD : DlrAt wr d base p n h (dealtT p h0 sec ran k m)) (hb : Below wr.heap.size wr w6) {F : Option Addr} {f : List Nat} (hF : NatsAt w6 F f) (hFb : ∀ b off, F = some ⟨b, off, none⟩ → wr.heap.size ≤ b ∧ b < w6.heap.size) (cf : Nat)
    (hp : 1 ≤ p) (hp2 : p ≤ 2147483648) (hf : ∀ x ∈ f, x < p) (hh : h0 < p) (hh0 : h0 ≤ 1000) (hfl : f.length ≤ 1048576) (hm : m ≤ 1048576) :
    Calls Tryd.prog 85 #[.pointer (some ⟨d, 0, none⟩), .slice F f.length cf] w6
      (fun e w' => e = .returned (.tuple #[]) ∧ DlrAt w' d base p n h (stepT p f (dealtT p h0 sec ran k m) (dealtT p h0 sec ran k m).length) ∧ Below base w6 w') := by
  obtain ⟨h1, h2, v, H, h3, h4⟩ := hD
  refine deal_any d base p n h _ F cf f w6 v H h1 (Nat.le_trans h2 hb.size) ((hb.block d (by omega)).trans h3) (h4.below hb) hF (fun bF off e => ⟨fun i hi b e2 => ?_, fun b e2 => ?_⟩) (fun bF off e => (hFb bF off e).2) hp hp2 hf (fun j hj => ?_) hfl (by rw [dealtT_len]; exact hh0) (fun j hj => ?_)
  · have := (hFb bF off e).1
    have := (World.ownsRow.lt (h4.row i hi) b e2).2
    omega
  · have := (hFb bF off e).1
    have := (World.ownsRow.lt h4.out b e2).2
    omega
  · rw [dealtT_len] at hj
    rw [(dealtT_at hj).1]; omega
  · rw [dealtT_len] at hj
    rw [(dealtT_at hj).2, List.length_map, List.length_range]; exact hm

set_option maxRecDepth 100000 in
set_option maxHeartbeats 4000000 in
theorem dealS_any (p n h : Int) (A B : Option Addr) (ca cb : Nat) (sec ran : List Int) (w : World) (hv : primeV p = validI p) (hB : Bases w) (hA : IntsAt w A sec) (hR : IntsAt w B ran) (hok : IOK B cb ran.length) (hl1 : sec.length ≤ 1048576) (hl2 : ran.length ≤ 1048576) :
    Calls Tryd.prog 50 #[planV p n h, .slice A sec.length ca, .slice B ran.length cb] w (ShErr (shL (dlL p n h sec ran)) (dlE p n h sec ran) w) := by
  have hva := valid_plan p n h (w.alloc (.cells #[.int .i64 p, .int .i64 n, .int .i64 h] 28)) (hB.keep (below_alloc _ _))
  have HA := Lib.hid hA
  have HR := Lib.hid hR
  have HOK := Lib.hid hok
  clear hA hR hok hB
  have HES := Lib.hid (fun (W : World) (hb : Below w.heap.size w W) => elements_plan p n h A sec ca W (HA.out.below hb) (by omega))
  have HER := Lib.hid (fun (W : World) (hb : Below w.heap.size w W) => elements_plan p n h B ran cb W (HR.out.below hb) (by omega))
  cases hp : plB p n h with
  | false =>
    have he := dlE_pl (sec := sec) (ran := ran) hp
    rw [dlL_no (by rw [he]; decide), he]
    rw [hp] at hva
    have HV := Lib.hid hva
    clear hva hp he hv
    go_enter Tryd.func50, Tryd.ntmps50
    go_wp2_with fail
    refine ret_below HV.out ?_
    intro w1 hb1
    go_wp2_with fail
    go_ret2
    exact ShErr.nil _ (below_trans (below_alloc _ _) hb1)
  | true =>
    rw [hp] at hva
    have HV := Lib.hid hva
    by_cases hbig : 2048 < sec.length
    · have he := dlE_big (ran := ran) hp hbig
      rw [dlL_no (by rw [he]; decide), he]
      have t1 : decide (2048 < (sec.length : Int)) = true := decide_eq_true (by omega)
      clear hva hp he hv
      go_enter Tryd.func50, Tryd.ntmps50
      go_wp2_with fail
      refine ret_below HV.out ?_
      intro w1 hb1
      have hbw1 := below_trans (below_alloc _ _) hb1
      have HP := Lib.hid ((PlanCell.new (w := w) p n h rfl).below hb1)
      have p0 := HP.out.c0
      have p1 := HP.out.c1
      have p2 := HP.out.c2
      go_wp2_with fail
      go_ret2
      exact ShErr.nil _ hbw1
    · have t1 : decide (2048 < (sec.length : Int)) = false := decide_eq_false (by omega)
      cases hi1 : inside p sec with
      | false =>
        have he := dlE_bad (sec := sec) (ran := ran) hp hbig (fun H => by rw [hi1] at H; cases H.1)
        rw [dlL_no (by rw [he]; decide), he]
        rw [hi1] at HES
        clear hva hp he hv hi1
        go_enter Tryd.func50, Tryd.ntmps50
        go_wp2_with fail
        refine ret_below HV.out ?_
        intro w1 hb1
        have hbw1 := below_trans (below_alloc _ _) hb1
        have HP := Lib.hid ((PlanCell.new (w := w) p n h rfl).below hb1)
        have p0 := HP.out.c0
        have p1 := HP.out.c1
        have p2 := HP.out.c2
        go_wp2_with fail
        refine ret_below (HES.out _ hbw1) ?_
        intro w2 hb2
        go_wp2_with fail
        go_ret2
        exact ShErr.nil _ (below_trans hbw1 hb2)
      | true =>
        rw [hi1] at HES
        cases hi2 : inside p ran with
        | false =>
          have he := dlE_bad (sec := sec) (ran := ran) hp hbig (fun H => by rw [hi2] at H; cases H.2.1)
          rw [dlL_no (by rw [he]; decide), he]
          rw [hi2] at HER
          clear hva hp he hv hi1 hi2
          go_enter Tryd.func50, Tryd.ntmps50
          go_wp2_with fail
          refine ret_below HV.out ?_
          intro w1 hb1
          have hbw1 := below_trans (below_alloc _ _) hb1
          have HP := Lib.hid ((PlanCell.new (w := w) p n h rfl).below hb1)
          have p0 := HP.out.c0
          have p1 := HP.out.c1
          have p2 := HP.out.c2
          go_wp2_with fail
          refine ret_below (HES.out _ hbw1) ?_
          intro w2 hb2
          have hbw2 := below_trans hbw1 hb2
          have HP2 := Lib.hid (HP.out.below hb2)
          have p02 := HP2.out.c0
          have p12 := HP2.out.c1
          have p22 := HP2.out.c2
          go_wp2_with fail
          refine ret_below (HER.out _ hbw2) ?_
          intro w3 hb3
          go_wp2_with fail
          go_ret2
          exact ShErr.nil _ (below_trans hbw2 hb3)
        | true =>
          rw [hi2] at HER
          obtain ⟨q, n', h', rfl, rfl, rfl, hq, hq2, m1, m2, m3, m4⟩ := plan_nat (of_decide_eq_true hp) hv
          have HRN := Lib.hid (fun (W : World) => random_any q n' h' sec.length W (by omega) (by omega) (by omega) (by omega))
          by_cases hle : (ran.length : Int) = sec.length * ((n' : Int) - 1)
          · have he := dlE_ok (sec := sec) (ran := ran) hp hbig ⟨hi1, hi2, hle⟩
            have t2 : ((ran.length : Int) != (sec.length : Int) * ((n' : Int) - 1)) = false := by simp [hle]
            have hdl : dlL q n' h' sec ran = dealN q n' h' (sec.map Int.toNat) (ran.map Int.toNat) := by
              unfold dlL; rw [if_pos he, Int.toNat_natCast, Int.toNat_natCast, Int.toNat_natCast]
            rw [hdl, he]
            obtain ⟨e1, e2⟩ := inside_nat hi1
            obtain ⟨e3, e4⟩ := inside_nat hi2
            have hs1 : (sec.map Int.toNat).length = sec.length := by simp
            have hs2 : (ran.map Int.toNat).length = ran.length := by simp
            have hAn : NatsAt w A (sec.map Int.toNat) := IntsAt.nats (by rw [e1]; exact HA.out)
            have hRn : NatsAt w B (ran.map Int.toNat) := IntsAt.nats (by rw [e3]; exact HR.out)
            have HAN := Lib.hid hAn
            have HRNA := Lib.hid hRn
            have HSP := Lib.hid e2
            have HRP := Lib.hid e4
            have hd0 : dealN q n' h' (sec.map Int.toNat) (ran.map Int.toNat) = dealtT q h' (sec.map Int.toNat) (ran.map Int.toNat) (n' - 1) sec.length := by unfold dealN; rw [hs1]
            have HD0 := Lib.hid hd0
            by_cases hn1 : n' = 1
            · have hsplit : True := trivial
              obtain ⟨k, hk⟩ : ∃ k, k = n' - 1 := ⟨_, rfl⟩
              have hk00 : k = 0 := by omega
              have hk' : (n' : Int) - 1 = 0 := by omega
              have hle' : ran.length = sec.length * k := by
                have h1 := hle
                rw [hk', Int.mul_zero] at h1
                rw [hk00]; omega
              rw [hk', Int.mul_zero] at t2 HRN
              have HK := Lib.hid hk'
              have HK00 := Lib.hid hk00
              have HLE := Lib.hid hle'
              have HOK2 := Lib.hid (show IOK B cb (ran.map Int.toNat).length by rw [hs2]; exact HOK.out)
              have HS1 := Lib.hid hs1
              have HS2 := Lib.hid hs2
              rw [← hk] at HD0
              clear hn1 hva hp he hv hi1 hi2 hle hdl e1 e3 e2 e4 hAn hRn hd0 hs1 hs2 hle' hk hk00
              generalize sec.map Int.toNat = SN at *
              generalize ran.map Int.toNat = RN at *
              have hp' : True := trivial
              go_enter Tryd.func50, Tryd.ntmps50
              go_wp2_with fail
              refine ret_below HV.out ?_
              intro w1 hb1
              have hbw1 := below_trans (below_alloc _ _) hb1
              have HP := Lib.hid ((PlanCell.new (w := w) q n' h' rfl).below hb1)
              have p0 := HP.out.c0
              have p1 := HP.out.c1
              have p2 := HP.out.c2
              go_wp2_with fail
              refine ret_below (HES.out _ hbw1) ?_
              intro w2 hb2
              have hbw2 := below_trans hbw1 hb2
              have HP2 := Lib.hid (HP.out.below hb2)
              have p02 := HP2.out.c0
              have p12 := HP2.out.c1
              have p22 := HP2.out.c2
              go_wp2_with fail
              refine ret_below (HER.out _ hbw2) ?_
              intro w3 hb3
              have hbw3 := below_trans hbw2 hb3
              have HP3 := Lib.hid (HP2.out.below hb3)
              have p03 := HP3.out.c0
              have p13 := HP3.out.c1
              have p23 := HP3.out.c2
              go_wp2_with fail
              refine ret_below (HRN.out _) ?_
              intro w4 hb4
              have hbw4 := below_trans hbw3 hb4
              have HP4 := Lib.hid (HP3.out.below hb4)
              have p04 := HP4.out.c0
              have p14 := HP4.out.c1
              have p24 := HP4.out.c2
              clear p0 p1 p2 p02 p12 p22 p03 p13 p23
              go_wp2_with fail
              refine (newDealer_any q n' h' _ (by omega)).mono ?_
              rintro e w5 ⟨d, base, rfl, hdw, hD, hb5⟩
              have hbw5 := below_trans hbw4 hb5
              have p15 := (HP4.out.below hb5).c1
              have hzw := hbw4.size
              have HD := Lib.hid hD
              have hdb := hD.1
              clear hD p04 p14 p24
              have HRM := Lib.hid (show ∀ i, i < sec.length → i * k + k ≤ ran.length from fun i hi => by rw [HLE.out]; exact part_bd hi)
              have hcap := HOK.out.len
              have HD1 : Hid (DlrAt w5 d base q n' h' (dealtT q h' SN RN k 0)) := by rw [dealtT_zero]; exact HD.out
              go_wp2_with fail
              go_loopw [47] (fun i wr => ∃ m : Nat, m ≤ sec.length ∧ i = .int .i64 m ∧ DlrAt wr d base q n' h' (dealtT q h' SN RN k m) ∧ Below base w5 wr) (fun i _ => sec.length - (intOf i).toNat)
              case atStart => exact ⟨0, Nat.zero_le _, rfl, HD1.out, Below.refl _ _⟩
              case round =>
                obtain ⟨i, hi, rfl, hDr, hbr⟩ := hrel
                have hbwr : Below w.heap.size w wr := hbw5.trans (hbr.mono (by omega))
                have HDr := Lib.hid hDr
                have hzr := hbr.size
                have hDB : base ≤ wr.heap.size := HDr.out.2.1
                clear hDr p15
                by_cases hlt : i < sec.length
                · obtain ⟨bA, oA, rfl, hbA, hcA⟩ := (HAN.out.below hbwr) i (by rw [HS1.out]; exact hlt)
                  have hrm := HRM.out i hlt
                  have HST := Lib.hid (dealtT_succ q h' SN RN k i)
                  obtain ⟨f, hf⟩ : ∃ f, f = polN SN RN k i := ⟨_, rfl⟩
                  have hfl : f.length ≤ k + 1 := by rw [hf]; exact polN_len
                  have HFP := Lib.hid (show ∀ x ∈ f, x < q by rw [hf]; exact polN_lt (by omega) HSP.out HRP.out k i)
                  rw [← hf] at HST
                  obtain ⟨T, hT⟩ : ∃ T, T = (RN.drop (i * k)).take k := ⟨_, rfl⟩
                  have HPOL : Hid ([nthN SN i] ++ T = f) := by rw [hf, hT]; rfl
                  have hTN : NatsAt wr B RN := HRNA.out.below hbwr
                  have hTl : T.length = 0 := by rw [hT, List.length_take, HK00.out]; omega
                  have HF := Lib.hid hf
                  have HTT := Lib.hid hT
                  have hXn : nthN SN i < q := nthN_lt (by omega) HSP.out i
                  have HDEAL := Lib.hid (fun (w6 : World) (Fa : Option Addr) (fc : Nat) (hb : Below wr.heap.size wr w6) (hF : NatsAt w6 Fa f) (hFb : ∀ b off, Fa = some ⟨b, off, none⟩ → wr.heap.size ≤ b ∧ b < w6.heap.size) => deal_go HDr.out hb hF hFb fc (show 1 ≤ q by omega) (by omega) HFP.out (show h' < q by omega) (by omega) (by have := HK00.out; omega) (by omega))
                  have hT0 : T = [] := List.eq_nil_of_length_eq_zero (by omega)
                  have hcb : B = none → cb = 0 := HOK.out.nil
                  have HCB := Lib.hid hcb
                  subst hT0
                  clear hTN hTl hf hT hcb
                  go_wp2_with (first
                    | (at_builtin; refine app_sl rfl (.tmp 54) (.tmp 63) rfl (base := wr.heap.size) (v := .slice (some ⟨wr.heap.size, 0, none⟩) 1 1) (S := [nthN SN i]) [] B cb rfl ((lit1_nats wr (nthN SN i)).own (Nat.le_refl _) (by unfold maxLen; simp)) rfl (NatsAt.nil _ _) (fun e => ⟨rfl, HCB.out e⟩) (.inl rfl) (by simp) (by simp) ?_; intro v6 w6 hown6 hb6; rw [HPOL.out] at hown6; obtain ⟨Fa, fc, rfl, hFN, hFS, hFb⟩ := own_sl hown6 rfl; have hb6' : Below wr.heap.size wr w6 := (below_of_alloc hb6 (Nat.le_refl _)); have HFN := Lib.hid hFN; have HFB := Lib.hid hFb; clear hFN hFb hown6)
                    | (go_at_call 85; refine (HDEAL.out _ Fa fc hb6' HFN.out HFB.out).mono ?_; rintro e w7 ⟨rfl, hD7, hb7⟩))
                  have HD7 := Lib.hid (And.intro hD7 (hbr.trans ((hb6'.mono hDB).trans hb7)))
                  clear hD7 hb7
                  go_roundw
                  case rel => exact ⟨i + 1, by omega, by go_num, by rw [← HST.out]; exact HD7.out.1, HD7.out.2⟩
                  case measure => simp [intOf]; omega
                · obtain rfl : i = sec.length := by omega
                  obtain ⟨-, -, v, H, hbox, hR2⟩ := HDr.out
                  obtain ⟨X, cx, rfl, hX⟩ := hR2.read
                  obtain ⟨-, c3, -⟩ := dlr_box hbox
                  have hX2 : ShP (fun b => w.heap.size ≤ b) wr X cx (shL (dealN q n' h' SN RN)) := by rw [HD0.out]; exact hX.mono (fun b _ hb => by omega)
                  have hlen : (dealN q n' h' SN RN).length = (dealtT q h' SN RN k sec.length).length := by rw [HD0.out]
                  have HX := Lib.hid (And.intro hX2 hlen)
                  clear hX hX2 hlen hbox hR2
                  go_wp2_with fail
                  go_ret2
                  exact ⟨X, cx, by rw [shL_len, HX.out.2]; rfl, HX.out.1, hbwr⟩
            · have hsplit : True := trivial
              obtain ⟨k, hk⟩ : ∃ k, k = n' - 1 := ⟨_, rfl⟩
              have hk0 : 0 < k := by omega
              have hk' : (n' : Int) - 1 = (k : Int) := by omega
              have hle' : ran.length = sec.length * k := by
                have h1 := hle
                rw [hk'] at h1
                exact Int.ofNat_inj.1 (by push_cast; exact h1)
              rw [hk'] at t2 HRN
              have HK := Lib.hid hk'
              have HLE := Lib.hid hle'
              have HOK2 := Lib.hid (show IOK B cb (ran.map Int.toNat).length by rw [hs2]; exact HOK.out)
              have HS1 := Lib.hid hs1
              have HS2 := Lib.hid hs2
              rw [← hk] at HD0
              clear hn1 hva hp he hv hi1 hi2 hle hdl e1 e3 e2 e4 hAn hRn hd0 hs1 hs2 hle' hk
              generalize sec.map Int.toNat = SN at *
              generalize ran.map Int.toNat = RN at *
              have hp' : True := trivial
              go_enter Tryd.func50, Tryd.ntmps50
              go_wp2_with fail
              refine ret_below HV.out ?_
              intro w1 hb1
              have hbw1 := below_trans (below_alloc _ _) hb1
              have HP := Lib.hid ((PlanCell.new (w := w) q n' h' rfl).below hb1)
              have p0 := HP.out.c0
              have p1 := HP.out.c1
              have p2 := HP.out.c2
              go_wp2_with fail
              refine ret_below (HES.out _ hbw1) ?_
              intro w2 hb2
              have hbw2 := below_trans hbw1 hb2
              have HP2 := Lib.hid (HP.out.below hb2)
              have p02 := HP2.out.c0
              have p12 := HP2.out.c1
              have p22 := HP2.out.c2
              go_wp2_with fail
              refine ret_below (HER.out _ hbw2) ?_
              intro w3 hb3
              have hbw3 := below_trans hbw2 hb3
              have HP3 := Lib.hid (HP2.out.below hb3)
              have p03 := HP3.out.c0
              have p13 := HP3.out.c1
              have p23 := HP3.out.c2
              go_wp2_with fail
              refine ret_below (HRN.out _) ?_
              intro w4 hb4
              have hbw4 := below_trans hbw3 hb4
              have HP4 := Lib.hid (HP3.out.below hb4)
              have p04 := HP4.out.c0
              have p14 := HP4.out.c1
              have p24 := HP4.out.c2
              clear p0 p1 p2 p02 p12 p22 p03 p13 p23
              go_wp2_with fail
              refine (newDealer_any q n' h' _ (by omega)).mono ?_
              rintro e w5 ⟨d, base, rfl, hdw, hD, hb5⟩
              have hbw5 := below_trans hbw4 hb5
              have p15 := (HP4.out.below hb5).c1
              have hzw := hbw4.size
              have HD := Lib.hid hD
              have hdb := hD.1
              clear hD p04 p14 p24
              have HRM := Lib.hid (show ∀ i, i < sec.length → i * k + k ≤ ran.length from fun i hi => by rw [HLE.out]; exact part_bd hi)
              have hcap := HOK.out.len
              have HD1 : Hid (DlrAt w5 d base q n' h' (dealtT q h' SN RN k 0)) := by rw [dealtT_zero]; exact HD.out
              go_wp2_with fail
              go_loopw [47] (fun i wr => ∃ m : Nat, m ≤ sec.length ∧ i = .int .i64 m ∧ DlrAt wr d base q n' h' (dealtT q h' SN RN k m) ∧ Below base w5 wr) (fun i _ => sec.length - (intOf i).toNat)
              case atStart => exact ⟨0, Nat.zero_le _, rfl, HD1.out, Below.refl _ _⟩
              case round =>
                obtain ⟨i, hi, rfl, hDr, hbr⟩ := hrel
                have hbwr : Below w.heap.size w wr := hbw5.trans (hbr.mono (by omega))
                have HDr := Lib.hid hDr
                have hzr := hbr.size
                have hDB : base ≤ wr.heap.size := HDr.out.2.1
                clear hDr p15
                by_cases hlt : i < sec.length
                · obtain ⟨bA, oA, rfl, hbA, hcA⟩ := (HAN.out.below hbwr) i (by rw [HS1.out]; exact hlt)
                  have hrm := HRM.out i hlt
                  have HST := Lib.hid (dealtT_succ q h' SN RN k i)
                  obtain ⟨f, hf⟩ : ∃ f, f = polN SN RN k i := ⟨_, rfl⟩
                  have hfl : f.length ≤ k + 1 := by rw [hf]; exact polN_len
                  have HFP := Lib.hid (show ∀ x ∈ f, x < q by rw [hf]; exact polN_lt (by omega) HSP.out HRP.out k i)
                  rw [← hf] at HST
                  obtain ⟨T, hT⟩ : ∃ T, T = (RN.drop (i * k)).take k := ⟨_, rfl⟩
                  have HPOL : Hid ([nthN SN i] ++ T = f) := by rw [hf, hT]; rfl
                  have hTN : NatsAt wr B RN := HRNA.out.below hbwr
                  have hTl : T.length = k := by rw [hT, List.length_take, List.length_drop, HS2.out]; omega
                  have HF := Lib.hid hf
                  have HTT := Lib.hid hT
                  have hXn : nthN SN i < q := nthN_lt (by omega) HSP.out i
                  have HDEAL := Lib.hid (fun (w6 : World) (Fa : Option Addr) (fc : Nat) (hb : Below wr.heap.size wr w6) (hF : NatsAt w6 Fa f) (hFb : ∀ b off, Fa = some ⟨b, off, none⟩ → wr.heap.size ≤ b ∧ b < w6.heap.size) => deal_go HDr.out hb hF hFb fc (show 1 ≤ q by omega) (by omega) HFP.out (show h' < q by omega) (by omega) (by omega) (by omega))
                  obtain ⟨lo, hlo⟩ : ∃ lo, lo = i * k := ⟨_, rfl⟩
                  have e1 : (i : Int) * (k : Int) = (lo : Int) := by rw [hlo]; push_cast; rfl
                  have b1 : (0 : Int) ≤ (i : Int) * (k : Int) := by rw [e1]; omega
                  have b2 : (i : Int) * (k : Int) ≤ 1048576 := by rw [e1]; omega
                  rw [← hlo] at hrm
                  obtain ⟨bB, oB, rfl, hbB, -⟩ := hTN lo (by rw [HS2.out]; omega)
                  have hne : ¬ cb = lo := by omega
                  obtain ⟨hi', hh'⟩ : ∃ x, x = lo + k := ⟨_, rfl⟩
                  have e2 : ((i : Int) + 1) * (k : Int) = (hi' : Int) := by rw [Int.add_mul, e1, Int.one_mul]; omega
                  have b3 : (0 : Int) ≤ ((i : Int) + 1) * (k : Int) := by rw [e2]; omega
                  have b4 : ((i : Int) + 1) * (k : Int) ≤ 1048576 := by rw [e2]; omega
                  have HTL := Lib.hid (show T.length = hi' - lo by omega)
                  have hTn : NatsAt wr (some ⟨bB, oB + lo, none⟩) T := by rw [hT, ← hlo]; exact (hTN.dropAt lo).take k
                  have HTN := Lib.hid hTn
                  have c1 : (lo : Int) ≤ (hi' : Int) := by omega
                  have c2 : (hi' : Int) ≤ (cb : Int) := by omega
                  have c3 : (lo : Int) ≤ (cb : Int) := by omega
                  have c4 : (0 : Int) ≤ (lo : Int) := by omega
                  have c5 : T.length ≤ 1048576 := by omega
                  clear hlo hTN hTl hf hT hTn hh'
                  go_wp2_with (first
                    | (at_builtin; refine app_sl rfl (.tmp 54) (.tmp 63) rfl (base := wr.heap.size) (v := .slice (some ⟨wr.heap.size, 0, none⟩) 1 1) (S := [nthN SN i]) T (some ⟨bB, oB + lo, none⟩) (cb - lo) rfl ((lit1_nats wr (nthN SN i)).own (Nat.le_refl _) (by unfold maxLen; simp)) (by rw [HTL.out]; rfl) (HTN.out.alloc _) (fun e => by cases e) (.inr (fun a e => by injection e with e; subst e; rfl)) (by simp; omega) (by simp) ?_; intro v6 w6 hown6 hb6; rw [HPOL.out] at hown6; obtain ⟨Fa, fc, rfl, hFN, hFS, hFb⟩ := own_sl hown6 rfl; have hb6' : Below wr.heap.size wr w6 := (below_of_alloc hb6 (Nat.le_refl _)); have HFN := Lib.hid hFN; have HFB := Lib.hid hFb; clear hFN hFb hown6)
                    | (go_at_call 85; refine (HDEAL.out _ Fa fc hb6' HFN.out HFB.out).mono ?_; rintro e w7 ⟨rfl, hD7, hb7⟩))
                  have HD7 := Lib.hid (And.intro hD7 (hbr.trans ((hb6'.mono hDB).trans hb7)))
                  clear hD7 hb7
                  go_roundw
                  case rel => exact ⟨i + 1, by omega, by go_num, by rw [← HST.out]; exact HD7.out.1, HD7.out.2⟩
                  case measure => simp [intOf]; omega
                · obtain rfl : i = sec.length := by omega
                  obtain ⟨-, -, v, H, hbox, hR2⟩ := HDr.out
                  obtain ⟨X, cx, rfl, hX⟩ := hR2.read
                  obtain ⟨-, c3, -⟩ := dlr_box hbox
                  have hX2 : ShP (fun b => w.heap.size ≤ b) wr X cx (shL (dealN q n' h' SN RN)) := by rw [HD0.out]; exact hX.mono (fun b _ hb => by omega)
                  have hlen : (dealN q n' h' SN RN).length = (dealtT q h' SN RN k sec.length).length := by rw [HD0.out]
                  have HX := Lib.hid (And.intro hX2 hlen)
                  clear hX hX2 hlen hbox hR2
                  go_wp2_with fail
                  go_ret2
                  exact ⟨X, cx, by rw [shL_len, HX.out.2]; rfl, HX.out.1, hbwr⟩
          · have he := dlE_bad (sec := sec) (ran := ran) hp hbig (fun H => hle H.2.2)
            rw [dlL_no (by rw [he]; decide), he]
            have t2 : ((ran.length : Int) != (sec.length : Int) * ((n' : Int) - 1)) = true := by simp [hle]
            clear hva hp he hv hi1 hi2 hle
            go_enter Tryd.func50, Tryd.ntmps50
            go_wp2_with fail
            refine ret_below HV.out ?_
            intro w1 hb1
            have hbw1 := below_trans (below_alloc _ _) hb1
            have HP := Lib.hid ((PlanCell.new (w := w) q n' h' rfl).below hb1)
            have p0 := HP.out.c0
            have p1 := HP.out.c1
            have p2 := HP.out.c2
            go_wp2_with fail
            refine ret_below (HES.out _ hbw1) ?_
            intro w2 hb2
            have hbw2 := below_trans hbw1 hb2
            have HP2 := Lib.hid (HP.out.below hb2)
            have p02 := HP2.out.c0
            have p12 := HP2.out.c1
            have p22 := HP2.out.c2
            go_wp2_with fail
            refine ret_below (HER.out _ hbw2) ?_
            intro w3 hb3
            have hbw3 := below_trans hbw2 hb3
            have HP3 := Lib.hid (HP2.out.below hb3)
            have p03 := HP3.out.c0
            have p13 := HP3.out.c1
            have p23 := HP3.out.c2
            go_wp2_with fail
            refine ret_below (HRN.out _) ?_
            intro w4 hb4
            go_wp2_with fail
            go_ret2
            exact ShErr.nil _ (below_trans hbw3 hb4)
end Go.Proofs.YtlhipgejiacklaaDoor
namespace Go.Proofs.YtlhipgejiacklaaDoor
open Go.RowKit

abbrev valsI (L : List Int) : List Value := L.map (Value.int .i64)
theorem valsI_one (L : List Int) : ∀ u ∈ valsI L, u.oneCell' = true := by
  intro u hu
  obtain ⟨x, -, rfl⟩ := List.mem_map.1 hu; rfl
theorem IntsAt.news {w : World} {a : Addr} {L : List Int} (h : IntsAt w (some a) L) (hs : L.length = 0 ∨ a.spot = none) : ∀ j u, (valsI L)[j]? = some u → w.cell? (a.add j) = some u := fun j u hu => by
  have hj : j < L.length := by
    rcases Nat.lt_or_ge j L.length with h1 | h1
    · exact h1
    · rw [List.getElem?_eq_none (by simp [valsI]; omega)] at hu; cases hu
  obtain ⟨b, off, hA, hb, hc⟩ := h j hj
  injection hA with hA
  subst hA
  have e : (⟨b, off, none⟩ : Addr).add j = ⟨b, off + j, none⟩ := by
    unfold Addr.add; split
    · rename_i h; subst h; rfl
    · rfl
  rw [e, hc, ← hu]
  simp [valsI, hj, nth_eq hj]
theorem own_ints {w : World} {base : Nat} {v : Value} {L : List Int} {n : Nat} (h : w.ownsRow base 3 1 v n (valsI L)) (hn : n = L.length) :
    ∃ A c, v = .slice A L.length c ∧ IntsAt w A L ∧ IOK A c L.length ∧ ∀ b off, A = some ⟨b, off, none⟩ → base ≤ b ∧ b < w.heap.size := by
  subst hn
  have hlt := World.ownsRow.lt h
  rcases h.2 with ⟨rfl, h0⟩ | ⟨g, cap, cur, rfl, hg, hh, hnc, hcm, hcs, htk⟩
  · have : L = [] := List.eq_nil_of_length_eq_zero h0
    subst this
    exact ⟨none, 0, rfl, IntsAt.nil _ _, IOK.none0, fun b off e => by cases e⟩
  · refine ⟨some ⟨g, 0, none⟩, cap, rfl, fun k hk => ⟨g, 0, rfl, (hlt g rfl).2, ?_⟩, ⟨hnc, hcm, (fun e => by cases e), .inr (fun a e => by injection e with e; subst e; rfl)⟩, fun b off e => by injection e with e; injection e with e1; subst e1; exact hlt g rfl⟩
    have := World.ownsRow.cellAt h (j := k) (by omega)
    rw [Nat.zero_add, this, List.getElem?_map, nth_eq hk, List.getElem?_eq_getElem hk]
    rfl
/-- append of a slice of numbers onto nil, in a region that draws. -/
theorem step_app_ints {ops : Array Oper} {o : Oper} {a : Act} {K : Act → World → Prop} {Q : Exit → Act → World → Prop} {E : Prop} (W : World) (hgd : o.guard = none) (s x : Operand)
    (ho : o.op = .call { callee := .builtin .append, args := #[s, x], argTypes := #[22, 22] })
    (L : List Int) (B : Option Addr) (c : Nat) (hs : a.eval s = .slice none 0 0) (hx : a.eval x = .slice B L.length c) (hI : IntsAt W B L) (hok : IOK B c L.length) (hl : L.length ≤ 4294967296)
    (h : ∀ A' c' w', w'.ownsRow W.heap.size 3 1 (.slice A' L.length c') L.length (valsI L) → Below W.heap.size W w' → K (a.put o.dst (.slice A' L.length c')) w') :
    if Region.wanted o (yielded ops a.tmps) = true then Oper.wp Tryd.prog o a W K Q else E := by
  have hw : Region.wanted o (yielded ops a.tmps) = true := by simp [Region.wanted, hgd]
  rw [if_pos hw]
  obtain ⟨i0, hi, hz0, hz1, hz2⟩ := info_parts info_int
  rcases B with _ | ad
  · have hc0 := hok.nil rfl
    subst hc0
    have hL0 : L.length = 0 := by have := hok.len; omega
    have hL : L = [] := List.eq_nil_of_length_eq_zero hL0
    subst hL
    have hrun := run_append_owned_none (P := Tryd.prog) (w := W) W.heap.size 22 o.type 3 i0 1 Tryd.underlying22 hi (.slice none 0 0) 0 [] (World.ownsRow_nil _ _ _ _)
    unfold Oper.wp
    simp [execOp, ho, resolve, invoke, builtin, hs, hx, hrun, Result.andThen]
    exact h none 0 W (World.ownsRow_nil _ _ _ _) (Below.refl _ _)
  · have hsp : L.length = 0 ∨ ad.spot = none := hok.spot.elim .inl (fun g => .inr (g ad rfl))
    obtain ⟨v', w', hr, h2, h3, h4, h5⟩ := run_append_own_at (P := Tryd.prog) W W.heap.size 22 o.type 3 i0 _ 1 8 Tryd.underlying22 hi hz0 hz1 hz2 rfl (by omega) (.slice none 0 0) 0 [] (World.ownsRow_nil _ _ _ _) ad L.length c (valsI L) (by simp [valsI]) (hI.news hsp) (valsI_one L) (by unfold maxLen; omega) (by omega) (Nat.le_refl _)
    rw [Nat.zero_add, List.nil_append] at h2
    have hB : Below W.heap.size W w' := ⟨h3.os, h3.tape, h3.output, h3.size, fun k hk => h3.block k hk (by simp [Value.ownBlock])⟩
    obtain ⟨A', c', rfl, -⟩ := own_ints h2 rfl
    unfold Oper.wp execOp
    simp only [ho, resolve, invoke, builtin, Sem.run_bind, Sem.run_pure, Result.andThen_ok, List.map_toArray, List.map_cons, List.map_nil, hs, hx, hr]
    exact h A' c' w' h2 hB

/-! ### Rows of shares of the own, of any numbers -/
structure RowsI (w : World) (base : Nat) (v : Value) (H : List HV) (S : List Shr) : Prop where
  out : HvOwn w base v H
  len : H.length = S.length
  hold : ∀ k, k < S.length → (hvAt H k).1 = hS S k
  row : ∀ k, k < S.length → w.ownsRow base 3 1 (hvAt H k).2 (vS S k).length (valsI (vS S k))
  ne : ∀ i j, i < S.length → j < S.length → i ≠ j → ∀ b, (hvAt H i).2.ownBlock = some b → (hvAt H j).2.ownBlock = some b → False
  no : ∀ i, i < S.length → ∀ b, (hvAt H i).2.ownBlock = some b → v.ownBlock = some b → False
theorem RowsI.below {w w' : World} {base : Nat} {v : Value} {H : List HV} {S : List Shr} (h : RowsI w base v H S) (hb : Below w.heap.size w w') : RowsI w' base v H S :=
  ⟨h.out.below hb, h.len, h.hold, fun k hk => own_below (h.row k hk) hb, h.ne, h.no⟩
theorem RowsI.read {w : World} {base : Nat} {v : Value} {H : List HV} {S : List Shr} (h : RowsI w base v H S) : ∃ A c, v = .slice A S.length c ∧ ShP (fun b => base ≤ b) w A c S := by
  rcases Nat.eq_zero_or_pos S.length with h0 | h0
  · have : S = [] := List.eq_nil_of_length_eq_zero h0
    subst this
    have hH : H = [] := List.eq_nil_of_length_eq_zero h.len
    have ho := h.out
    subst hH
    rcases ho.2 with ⟨rfl, -⟩ | ⟨g, cap, cur, rfl, hg, hh, hnc, hcm, hcs, htk⟩
    · exact ⟨none, 0, rfl, ShP.nil _ _⟩
    · exact ⟨_, cap, rfl, fun k hk => absurd hk (by simp), ⟨Nat.zero_le _, hcm, (fun e => by cases e), .inl rfl⟩⟩
  · obtain ⟨g, c, rfl, hg, hbg, hlc, hcm, hcell, -⟩ := h.out.form (by rw [h.len]; exact h0)
    refine ⟨some ⟨g, 0, none⟩, c, by rw [h.len], fun k hk => ?_, ⟨by rw [← h.len]; exact hlc, hcm, (fun e => by cases e), .inr (fun a e => by injection e with e; subst e; rfl)⟩⟩
    obtain ⟨c1, c2⟩ := hcell k (by rw [h.len]; exact hk)
    obtain ⟨B, c', hv, hN, hS', hb⟩ := own_ints (h.row k hk) rfl
    refine ⟨g, 0, B, c', rfl, hg, hbg, ?_, ?_, ?_⟩
    · rw [Nat.zero_add, c1, h.hold k hk]
    · rw [Nat.zero_add, c2, hv]
    · exact ⟨hN, hS', fun b off e => .inr (hb b off e).1⟩
theorem hS_append {S K : List Shr} {k : Nat} (h : k < S.length) : hS (S ++ K) k = hS S k ∧ vS (S ++ K) k = vS S k := by simp [hS, vS, List.getD_eq_getElem?_getD, List.getElem?_append_left h]
theorem hS_last {S : List Shr} {y : Shr} : hS (S ++ [y]) S.length = y.1 ∧ vS (S ++ [y]) S.length = y.2 := by simp [hS, vS, List.getD_eq_getElem?_getD]
/-- One share more, its values a row made for it. -/
theorem RowsI.more {w w1 w' : World} {base : Nat} {v v' u : Value} {H : List HV} {S : List Shr} (h : RowsI w base v H S) (hb1 : Below w.heap.size w w1) (x : Int) (L : List Int) (hu : w1.ownsRow w.heap.size 3 1 u L.length (valsI L)) (hbs : base ≤ w.heap.size)
    (hown : HvOwn w' base v' (H ++ [(x, u)])) (hg : w1.grownBy w' v.ownBlock) (hv : v'.ownBlock = v.ownBlock ∨ ∀ b, v'.ownBlock = some b → w1.heap.size ≤ b) : RowsI w' base v' (H ++ [(x, u)]) (S ++ [(x, L)]) := by
  have hl := h.len
  have h1 := h.below hb1
  have hcase : ∀ k, k < (S ++ [(x, L)]).length → k < S.length ∨ k = S.length := fun k hk => by simp at hk; omega
  have hub : ∀ b, u.ownBlock = some b → w.heap.size ≤ b ∧ b < w1.heap.size := fun b e => World.ownsRow.lt hu b e
  refine ⟨hown, by simp [hl], fun k hk => ?_, fun k hk => ?_, fun i j hi hj hij b e1 e2 => ?_, fun i hi b e1 e2 => ?_⟩
  · rcases hcase k hk with hk | rfl
    · rw [hvAt_append (by omega), (hS_append hk).1]; exact h.hold k hk
    · rw [← hl, hvAt_last, hl, hS_last.1]
  · rcases hcase k hk with hk | rfl
    · rw [hvAt_append (by omega), (hS_append hk).2]
      refine World.ownsRow.kept (h1.row k hk) hg ?_
      rcases he : (hvAt H k).2.ownBlock with _ | b
      · exact .inl rfl
      · exact .inr (fun e => h.no k hk b he e.symm)
    · rw [← hl, hvAt_last, hl, hS_last.2]
      refine ownsRow_mono (World.ownsRow.kept hu hg ?_) hbs
      rcases he : u.ownBlock with _ | b
      · exact .inl rfl
      · exact .inr (fun e => by have := (World.ownsRow.lt h.out b e.symm).2; have := hub b he; omega)
  · rcases hcase i hi with hi | rfl
    · rcases hcase j hj with hj | rfl
      · rw [hvAt_append (by omega)] at e1 e2; exact h.ne i j hi hj hij b e1 e2
      · rw [hvAt_append (by omega)] at e1
        rw [← hl, hvAt_last] at e2
        have := (World.ownsRow.lt (h.row i hi) b e1).2; have := hub b e2; omega
    · rcases hcase j hj with hj | rfl
      · rw [hvAt_append (by omega)] at e2
        rw [← hl, hvAt_last] at e1
        have := (World.ownsRow.lt (h.row j hj) b e2).2; have := hub b e1; omega
      · exact hij rfl
  · rcases hcase i hi with hi | rfl
    · rw [hvAt_append (by omega)] at e1
      rcases hv with e | e
      · exact h.no i hi b e1 (e ▸ e2)
      · have := (World.ownsRow.lt (h1.row i hi) b e1).2
        have := e b e2; omega
    · rw [← hl, hvAt_last] at e1
      have h3 := hub b e1
      rcases hv with e | e
      · have := (World.ownsRow.lt h.out b (e ▸ e2)).2; omega
      · have := e b e2; omega
/-- append of one share onto a row of the own, in a region that draws. -/
theorem step_app_hv {ops : Array Oper} {o : Oper} {a : Act} {K : Act → World → Prop} {Q : Exit → Act → World → Prop} {E : Prop} (W : World) (hgd : o.guard = none) (s x : Operand)
    (ho : o.op = .call { callee := .builtin .append, args := #[s, x], argTypes := #[31, 31] })
    (w5 : World) (base : Nat) (v : Value) (H : List HV) (y : Int) (u : Value) (hs : a.eval s = v) (hx : a.eval x = .slice (some ⟨w5.heap.size, 0, none⟩) 1 1)
    (hW : W.heap = (w5.alloc (.cells #[.int .i64 y, u] 53)).heap ∧ W.os = w5.os ∧ W.tape = w5.tape ∧ W.output = w5.output) (hu : isSl u = true)
    (hown : HvOwn w5 base v H) (hl : H.length ≤ 1048576) (hbase : base ≤ w5.heap.size)
    (h : ∀ g cap w', HvOwn w' base (.slice (some ⟨g, 0, none⟩) (H.length + 1) cap) (H ++ [(y, u)]) → w5.grownBy w' v.ownBlock → (v.ownBlock = some g ∨ w5.heap.size ≤ g) → Below base w5 w' → K (a.put o.dst (.slice (some ⟨g, 0, none⟩) (H.length + 1) cap)) w') :
    if Region.wanted o (yielded ops a.tmps) = true then Oper.wp Tryd.prog o a W K Q else E := by
  obtain ⟨i0, hi, hz0, hz1, hz2⟩ := info_parts info_share
  have hbW : Below w5.heap.size w5 W := ⟨hW.2.1, hW.2.2.1, hW.2.2.2, by rw [hW.1]; simp, fun k hk => by rw [hW.1]; exact heap_alloc_old w5 _ hk⟩
  have hsz : W.heap.size = w5.heap.size + 1 := by rw [hW.1]; simp
  have hg : W.heap[w5.heap.size]? = some (.cells #[.int .i64 y, u] 53 (0, 0)) := by rw [hW.1]; exact heap_alloc_new w5 _
  refine step_append_lies _ hgd s x 31 ho base 53 i0 _ 2 32 Tryd.underlying31 hi hz0 hz1 hz2 rfl (by omega) v H.length (flatH H) hs (hown.below hbW) ⟨w5.heap.size, 0, none⟩ 1 1 (flatH [(y, u)]) hx (flatH_len [(y, u)]) (fun j z hz => ?_) (flatH_one [(y, u)] (fun k hk => ?_)) (by omega) (by unfold maxLen; omega) (by omega) (by omega) _ rfl ?_
  · have hj : j < 2 := by
      rcases Nat.lt_or_ge j 2 with h1 | h1
      · exact h1
      · rw [List.getElem?_eq_none (by rw [flatH_len]; simp; omega)] at hz; cases hz
    have : j = 0 ∨ j = 1 := by omega
    rcases this with rfl | rfl
    · rw [show (⟨w5.heap.size, 0, none⟩ : Addr).add 0 = ⟨w5.heap.size, 0, none⟩ from rfl, cell_of_row W w5.heap.size 0 _ _ (0, 0) hg, ← hz]; rfl
    · rw [show (⟨w5.heap.size, 0, none⟩ : Addr).add 1 = ⟨w5.heap.size, 1, none⟩ from rfl, cell_of_row W w5.heap.size 1 _ _ (0, 0) hg, ← hz]; rfl
  · have : k = 0 := by simp at hk; omega
    subst this; exact hu
  · intro g cap w' ho' hgr hat _
    have hg5 : w5.grownBy w' v.ownBlock := ⟨hgr.os.trans hbW.os, hgr.tape.trans hbW.tape, hgr.output.trans hbW.output, Nat.le_trans hbW.size hgr.size, fun k hk hne => (hgr.block k (by omega) hne).trans (hbW.block k hk)⟩
    refine h g cap w' ?_ hg5 (hat.elim .inl (fun e => .inr (by omega))) ((Below.refl _ _).grown hg5 hbase (fun k hk => (World.ownsRow.lt hown k hk).1))
    unfold HvOwn; rw [List.length_append, flatH_append]; exact ho'
theorem hSv_take {S : List Shr} {k : Nat} (h : k < S.length) : S.take (k + 1) = S.take k ++ [(hS S k, vS S k)] := by
  rw [List.take_succ_eq_append_getElem h]
  congr 1
  simp [hS, vS, List.getD_eq_getElem?_getD, h]
/-- The call returns a copy: rows of the own. -/
def CopyP (S : List Shr) (w : World) (e : Ending) (w' : World) : Prop := ∃ v H, e = .returned v ∧ RowsI w' w.heap.size v H S ∧ Below w.heap.size w w'

set_option maxRecDepth 100000 in
set_option maxHeartbeats 4000000 in
theorem copy_any {P : Nat → Prop} (A : Option Addr) (c : Nat) (S : List Shr) (w : World) (hS : ShP P w A c S) (hsh : Short S) (hl : S.length ≤ 1000000) :
    Calls Tryd.prog 67 #[.slice A S.length c] w (CopyP S w) := by
  have HS := Lib.hid hS
  have HSH := Lib.hid hsh
  clear hS hsh
  go_enter Tryd.func67, Tryd.ntmps67
  go_wp2_with fail
  go_loopw [3, 8] (fun o i wr => ∃ (k : Nat) (H : List HV), k ≤ S.length ∧ i = .int .i64 k ∧ RowsI wr w.heap.size o H (S.take k) ∧ Below w.heap.size w wr) (fun _ i _ => S.length - (intOf i).toNat)
  case atStart => exact ⟨0, [], Nat.zero_le _, rfl, ⟨HvOwn.nil _ _, rfl, fun k hk => absurd hk (by simp), fun k hk => absurd hk (by simp), fun i j hi => absurd hi (by simp), fun i hi => absurd hi (by simp)⟩, Below.refl _ _⟩
  case round =>
    obtain ⟨k, H, hk, rfl, hR, hbr⟩ := hrel
    have hlk : (S.take k).length = k := by rw [List.length_take]; omega
    obtain ⟨OA, oc, hv, -⟩ := hR.read
    rw [hlk] at hv
    subst hv
    have HLK := Lib.hid hlk
    clear hlk
    have hsz := hbr.size
    have hHl : H.length ≤ 1000000 := by rw [hR.len, List.length_take]; omega
    have HR := Lib.hid hR
    by_cases hlt : k < S.length
    · obtain ⟨b, off, B, c1, rfl, hb, -, h1, h2, h3⟩ := (HS.out.below hbr).at_ k hlt
      have HI := Lib.hid h3
      have hvl := HSH.out k hlt
      have HTK := Lib.hid (hSv_take hlt)
      have hlt' : k = H.length := HLK.out.symm.trans HR.out.len.symm
      generalize hS S k = x at *
      generalize vS S k = L at *
      have HTL := Lib.hid hlt'
      clear h3 hR hlt'
      go_wp2_with fail
      refine gen_world fun w1 hw1 => ?_
      have hb1 : Below wr.heap.size wr w1 := by rw [hw1]; exact below_alloc _ _
      have hsc : ShCell w1 wr.heap.size x (.slice B L.length c1) := by rw [hw1]; exact ShCell.new _ _ rfl
      have s0 := hsc.c0
      have s1 := hsc.c1
      have ls := blk_lt hsc
      have hz1 := hb1.size
      have HI1 := Lib.hid (HI.out.keep (Kept.below hb1))
      clear hw1 hsc h1 h2
      go_region_held3 (fun w' => w'.cell? ⟨wr.heap.size, 0, none⟩ = some (.int .i64 x) ∧ w'.cell? ⟨wr.heap.size, 1, none⟩ = some (.slice B L.length c1)) (first | go_keep | exact ⟨n60, n61⟩)
        (first
          | (refine step_app_ints _ rfl (.const (.slice none 0 0)) (.tmp 16) rfl L B c1 rfl rfl (by exact HI1.out.ints) HI1.out.ok (by omega) ?_; intro VA vc w4 hown4 hb4; have hb4' : Below w1.heap.size w1 w4 := (below_undrew1 hb4); have n40 := (hb4'.cell (p := ⟨wr.heap.size, 0, none⟩) ls).trans s0; have n41 := (hb4'.cell (p := ⟨wr.heap.size, 1, none⟩) ls).trans s1; have l4 : wr.heap.size < w4.heap.size := (Nat.lt_of_lt_of_le ls hb4'.size))
          | (refine step_app_hv _ rfl (.tmp 12) (.tmp 19) rfl w4 w.heap.size (.slice OA k oc) H x (.slice VA L.length vc) rfl rfl ⟨rfl, rfl, rfl, rfl⟩ rfl (HR.out.out.below (below_trans hb1 hb4')) (by omega) (by omega) ?_; intro g6 c6 w6 hown6 hg6 hat6 hb6; have n60 : w6.cell? ⟨wr.heap.size, 0, none⟩ = some (.int .i64 x) := (World.cell?_of_block (w := w4) (hg6.block wr.heap.size l4 (fun e => by have := (World.ownsRow.lt HR.out.out _ e.symm).2; omega))).trans n40; have n61 : w6.cell? ⟨wr.heap.size, 1, none⟩ = some (.slice B L.length c1) := (World.cell?_of_block (w := w4) (hg6.block wr.heap.size l4 (fun e => by have := (World.ownsRow.lt HR.out.out _ e.symm).2; omega))).trans n41))
      all_goals
        have HM := Lib.hid (HR.out.more (below_trans hb1 hb4') x L (ownsRow_mono hown4 (by simp [drew_size]; exact hz1)) hsz hown6 hg6 (hat6.elim (fun e => .inl e.symm) (fun e => .inr (fun b e2 => by have : g6 = b := Option.some.inj (show some g6 = some b from e2); omega))))
        have HB := Lib.hid (hbr.trans (((below_trans hb1 hb4').mono hsz).trans hb6))
        clear hown4 hown6 hg6 hat6
        go_wp2_with fail
        go_roundw
        case rel => exact ⟨k + 1, _, by omega, by go_num, by rw [HTK.out]; exact HM.out, HB.out⟩
        case measure => simp [intOf]; omega
    · obtain rfl : k = S.length := by omega
      rw [List.take_length] at HR
      clear hR
      go_wp2_with fail
      go_ret
      exact ⟨_, _, rfl, HR.out, hbr⟩
end Go.Proofs.YtlhipgejiacklaaDoor
namespace Go.Proofs.YtlhipgejiacklaaDoor
open Go.RowKit

attribute [local go_sem high] sliced_low
/-! ### A plan that dice give -/
theorem results_plan {fn : Func} {t : Tmp} (h : fn.results = #[.cell t 28]) (tmps : Array Value) (w : World) (g : Nat) (hp : tmps.getD t undef = .pointer (some ⟨g, 0, none⟩)) {p n h' : Int} (hX : PlanCell w g p n h') :
    (results fn tmps).run Tryd.prog w = .ok (planV p n h') w :=
  results_cell_row h tmps w g 28 _ (0, 0) _ hp hX Tryd.underlying28 rfl (by kernel_rfl)
theorem PlanCell.frozen {w : World} {x : Nat} {p n h : Int} (H : PlanCell w x p n h) (j : Nat) : w.frozen? ⟨x, j, none⟩ = false := by unfold PlanCell at H; simp [World.frozen?, H]
theorem PlanCell.fill {w : World} {x : Nat} {p n h : Int} (H : PlanCell w x p n h) (p' n' h' : Int) : PlanCell (((w.setCell ⟨x, 0, none⟩ (.int .i64 p')).setCell ⟨x, 1, none⟩ (.int .i64 n')).setCell ⟨x, 2, none⟩ (.int .i64 h')) x p' n' h' := by
  unfold PlanCell at H ⊢; simp [World.setCell, Array.getElem?_modify, H]
theorem grown_set {w w' : World} {D : Nat} (h : w.grownBy w' (some D)) (q : Addr) (v : Value) (hq : w.heap.size ≤ q.block) : w.grownBy (w'.setCell q v) (some D) :=
  ⟨h.os, h.tape, h.output, by simpa [World.setCell] using h.size, fun k hk hne => (Below.heap_setCell w' q v k (by omega)).trans (h.block k hk hne)⟩
structure PlanD (p n h : Nat) : Prop where
  n1 : 1 ≤ n
  nh : n ≤ h
  h7 : h ≤ 7
  hp : h < p
def PlanR (D p : Nat) (w : World) (e : Ending) (w' : World) : Prop := ∃ (n h : Nat) (R' : List Int), e = .returned (planV p n h) ∧ PlanD p n h ∧ DiceAt w' D R' ∧ w.grownBy w' (some D)
set_option maxRecDepth 100000 in
set_option maxHeartbeats 2000000 in
theorem plan_any (D : Nat) (R : List Int) (p : Nat) (w : World) (hd : DiceAt w D R) (hp : 2 ≤ p) (hp2 : p ≤ 2147483648) :
    Calls Tryd.prog 16 #[.pointer (some ⟨D, 0, none⟩), .int .i64 (p : Int)] w (PlanR D p w) := by
  have hlt := hd.lt
  have hpi : (2 : Int) ≤ (p : Int) := by omega
  go_enter Tryd.func16, Tryd.ntmps16
  go_wp2_with fail
  all_goals
    refine (next_nat D R _ _ (hd.alloc _) (by omega) (by omega)).mono ?_
    rintro e w1 ⟨m1, rfl, hm1, hD1, hg1⟩
    have hm7 : m1 < 7 := by omega
    have hmp : m1 + 1 < p := by omega
    have hX1 : PlanCell w1 w.heap.size 0 0 0 := (hg1.block w.heap.size (by simp) (fun e => by injection e with e; omega)).trans (PlanCell.new 0 0 0 rfl)
    have hgw1 := grown_trans (grown_of_below (r := some D) (below_alloc w (.cells #[.int .i64 0, .int .i64 0, .int .i64 0] 28))) hg1
    have HX1 := Lib.hid hX1
    have lx1 := hX1.lt
    clear hX1 hg1 hd hm1
    go_wp2_with fail
    refine (next_nat D _ _ _ hD1 (by omega) (by omega)).mono ?_
    rintro e w2 ⟨m2, rfl, hm2, hD2, hg2⟩
    have hX2 : PlanCell w2 w.heap.size 0 0 0 := (hg2.block w.heap.size lx1 (fun e => by injection e with e; omega)).trans HX1.out
    have x0 := hX2.c0
    have x1 := hX2.c1
    have x2 := hX2.c2
    have f0 := hX2.frozen 0
    have f1 := hX2.frozen 1
    have f2 := hX2.frozen 2
    have HX2 := Lib.hid hX2
    have lx2 := hX2.lt
    have HG := Lib.hid (And.intro hD2 (grown_trans hgw1 hg2))
    have hm2' : m2 ≤ m1 := by omega
    clear hX2 hg2 hD1 hD2 hgw1 hm2
    go_wp2_with fail
    have hfin := HX2.out.fill p (1 + m2) (1 + m1)
    have hgf : w.grownBy (((w2.setCell ⟨w.heap.size, 0, none⟩ (.int .i64 (p : Int))).setCell ⟨w.heap.size, 1, none⟩ (.int .i64 (1 + (m2 : Int)))).setCell ⟨w.heap.size, 2, none⟩ (.int .i64 (1 + (m1 : Int)))) (some D) :=
      grown_set (grown_set (grown_set HG.out.2 _ _ (Nat.le_refl _)) _ _ (Nat.le_refl _)) _ _ (Nat.le_refl _)
    refine bodyPost_ret (results_plan rfl _ _ w.heap.size rfl hfin) rfl ⟨1 + m2, 1 + m1, R.tail.tail, by push_cast; rfl, ⟨by omega, by omega, by omega, by omega⟩, ?_, hgf⟩
    exact ((HG.out.1.setCell _ _ (by simp; omega)).setCell _ _ (by simp; omega)).setCell _ _ (by simp; omega)

/-! ### Another order -/
theorem HvOwn.setHV {w : World} {base g c : Nat} {H : List HV} (h : HvOwn w base (.slice (some ⟨g, 0, none⟩) H.length c) H) (i : Nat) (hi : i < H.length) (x : HV) :
    HvOwn ((w.setCell ⟨g, i * 2, none⟩ (.int .i64 x.1)).setCell ⟨g, i * 2 + 1, none⟩ x.2) base (.slice (some ⟨g, 0, none⟩) H.length c) (H.set i x) := by
  have h1 := h.set0 i hi x.1
  have h1' : HvOwn (w.setCell ⟨g, i * 2, none⟩ (.int .i64 x.1)) base (.slice (some ⟨g, 0, none⟩) (H.set i (x.1, (hvAt H i).2)).length c) (H.set i (x.1, (hvAt H i).2)) := by rw [List.length_set]; exact h1
  have h2 := h1'.set1 i (by simpa using hi) x.2
  rw [hvAt_set_same _ _ _ hi, List.set_set, List.length_set] at h2
  exact h2
def swapH (H : List HV) (i k : Nat) : List HV := (H.set i (hvAt H k)).set k (hvAt H i)
def swapS (S : List Shr) (i k : Nat) : List Shr := (S.set i (hS S k, vS S k)).set k (hS S i, vS S i)
theorem swapH_len (H : List HV) (i k : Nat) : (swapH H i k).length = H.length := by simp [swapH]
theorem swapS_len (S : List Shr) (i k : Nat) : (swapS S i k).length = S.length := by simp [swapS]
theorem shr_at {S : List Shr} {k : Nat} (h : k < S.length) : S[k] = (hS S k, vS S k) := by simp [hS, vS, List.getD_eq_getElem?_getD, h]
theorem swapS_perm {S : List Shr} {i k : Nat} (hi : i < S.length) (hk : k < S.length) : (swapS S i k).Perm S := by
  unfold swapS
  rw [← shr_at hk, ← shr_at hi]
  exact List.set_set_perm hi hk
def swi (i k j : Nat) : Nat := if j = k then i else if j = i then k else j
theorem swapH_at {H : List HV} {i k j : Nat} (hi : i < H.length) (hk : k < H.length) : hvAt (swapH H i k) j = hvAt H (swi i k j) := by
  unfold swapH swi
  by_cases h1 : j = k
  · subst h1; rw [if_pos rfl, hvAt_set_same _ _ _ (by simpa using hk)]
  · rw [if_neg h1, hvAt_set_other _ _ _ _ (Ne.symm h1)]
    by_cases h2 : j = i
    · subst h2; rw [if_pos rfl, hvAt_set_same _ _ _ hi]
    · rw [if_neg h2, hvAt_set_other _ _ _ _ (Ne.symm h2)]
theorem swapS_at {S : List Shr} {i k j : Nat} (hi : i < S.length) (hk : k < S.length) : hS (swapS S i k) j = hS S (swi i k j) ∧ vS (swapS S i k) j = vS S (swi i k j) := by
  unfold swapS swi
  by_cases h1 : j = k
  · subst h1; rw [if_pos rfl]; simp [hS, vS, List.getD_eq_getElem?_getD, hk]
  · rw [if_neg h1]
    by_cases h2 : j = i
    · subst h2
      rw [if_pos rfl]
      have e1 : ((S.set j (hS S k, vS S k)).set k (hS S j, vS S j))[j]? = some (hS S k, vS S k) := by rw [List.getElem?_set_ne (Ne.symm h1)]; simp [hi]
      constructor
      · show (((S.set j (hS S k, vS S k)).set k (hS S j, vS S j)).getD j (0, [])).1 = _
        rw [List.getD_eq_getElem?_getD, e1]; rfl
      · show (((S.set j (hS S k, vS S k)).set k (hS S j, vS S j)).getD j (0, [])).2 = _
        rw [List.getD_eq_getElem?_getD, e1]; rfl
    · rw [if_neg h2]; simp [hS, vS, List.getD_eq_getElem?_getD, List.getElem?_set_ne (Ne.symm h1), List.getElem?_set_ne (Ne.symm h2)]
theorem swi_lt {i k j n : Nat} (hi : i < n) (hk : k < n) (hj : j < n) : swi i k j < n := by unfold swi; split <;> (try split) <;> assumption
theorem swi_inj {i k a b : Nat} (h : swi i k a = swi i k b) : a = b := by unfold swi at h; split at h <;> split at h <;> (try split at h) <;> (try split at h) <;> omega
/-- Two shares have changed places. -/
theorem RowsI.swap {w : World} {base g c : Nat} {H : List HV} {S : List Shr} (h : RowsI w base (.slice (some ⟨g, 0, none⟩) H.length c) H S) {i k : Nat} (hi : i < S.length) (hk : k < S.length) :
    RowsI ((((w.setCell ⟨g, i * 2, none⟩ (.int .i64 (hvAt H k).1)).setCell ⟨g, i * 2 + 1, none⟩ (hvAt H k).2).setCell ⟨g, k * 2, none⟩ (.int .i64 (hvAt H i).1)).setCell ⟨g, k * 2 + 1, none⟩ (hvAt H i).2) base (.slice (some ⟨g, 0, none⟩) H.length c) (swapH H i k) (swapS S i k) := by
  have hl := h.len
  have h1 := h.out.setHV i (by omega) (hvAt H k)
  have h1' : HvOwn ((w.setCell ⟨g, i * 2, none⟩ (.int .i64 (hvAt H k).1)).setCell ⟨g, i * 2 + 1, none⟩ (hvAt H k).2) base (.slice (some ⟨g, 0, none⟩) (H.set i (hvAt H k)).length c) (H.set i (hvAt H k)) := by rw [List.length_set]; exact h1
  have h2 := h1'.setHV k (by rw [List.length_set]; omega) (hvAt H i)
  rw [List.length_set] at h2
  have hHi : i < H.length := by omega
  have hHk : k < H.length := by omega
  refine ⟨h2, by rw [swapH_len, swapS_len, hl], fun j hj => ?_, fun j hj => ?_, fun a b ha hb hab x e1 e2 => ?_, fun a ha x e1 e2 => ?_⟩
  · rw [swapS_len] at hj
    rw [swapH_at hHi hHk, (swapS_at hi hk).1]; exact h.hold _ (swi_lt hi hk hj)
  · rw [swapS_len] at hj
    have hne : ∀ b, (hvAt H (swi i k j)).2.ownBlock = some b → b ≠ g := fun b e e2 => h.no _ (swi_lt hi hk hj) b e (by rw [e2]; rfl)
    rw [swapH_at hHi hHk, (swapS_at hi hk).2]
    exact own_other (own_other (own_other (own_other (h.row _ (swi_lt hi hk hj)) _ _ hne) _ _ hne) _ _ hne) _ _ hne
  · rw [swapS_len] at ha hb
    rw [swapH_at hHi hHk] at e1 e2
    exact h.ne _ _ (swi_lt hi hk ha) (swi_lt hi hk hb) (fun e => hab (swi_inj e)) x e1 e2
  · rw [swapS_len] at ha
    rw [swapH_at hHi hHk] at e1
    exact h.no _ (swi_lt hi hk ha) x e1 e2
def TurnP (D : Nat) (S : List Shr) (least : Nat) (w : World) (e : Ending) (w' : World) : Prop :=
  ∃ (A : Option Addr) (c m : Nat) (Q : List Shr) (R' : List Int), e = .returned (.slice A m c) ∧ Q.Perm S ∧ m ≤ S.length ∧ (least ≤ m ∨ m = S.length) ∧ ShP (· ≠ D) w' A c (Q.take m) ∧ DiceAt w' D R' ∧ w.grownBy w' (some D)
theorem RowsI.drew {w : World} {base : Nat} {v : Value} {H : List HV} {S : List Shr} (h : RowsI w base v H S) : RowsI w.drew base v H S := ⟨h.out, h.len, h.hold, h.row, h.ne, h.no⟩
theorem grown_drew {w w' : World} {r : Option Nat} (h : w.grownBy w' r) : w.grownBy w'.drew r := ⟨h.os, h.tape, h.output, h.size, h.block⟩
theorem grown4 {w w' : World} {D g a b c d : Nat} {v1 v2 v3 v4 : Value} (h : w.grownBy w' (some D)) (hg : w.heap.size ≤ g) : w.grownBy ((((w'.setCell ⟨g, a, none⟩ v1).setCell ⟨g, b, none⟩ v2).setCell ⟨g, c, none⟩ v3).setCell ⟨g, d, none⟩ v4).drew (some D) :=
  grown_drew (grown_set (grown_set (grown_set (grown_set h ⟨g, a, none⟩ v1 hg) ⟨g, b, none⟩ v2 hg) ⟨g, c, none⟩ v3 hg) ⟨g, d, none⟩ v4 hg)
theorem dice4 {w : World} {D g a b c d : Nat} {R : List Int} {v1 v2 v3 v4 : Value} (h : DiceAt w D R) (hg : D < g) : DiceAt ((((w.setCell ⟨g, a, none⟩ v1).setCell ⟨g, b, none⟩ v2).setCell ⟨g, c, none⟩ v3).setCell ⟨g, d, none⟩ v4).drew D R :=
  DiceAt.drewN ((((h.setCell ⟨g, a, none⟩ v1 hg).setCell ⟨g, b, none⟩ v2 hg).setCell ⟨g, c, none⟩ v3 hg).setCell ⟨g, d, none⟩ v4 hg) 1
theorem RowsI.grown {w w' : World} {base D : Nat} {v : Value} {H : List HV} {S : List Shr} (h : RowsI w base v H S) (hg : w.grownBy w' (some D)) (hD : D < base) : RowsI w' base v H S := by
  have hk : ∀ {e : TypeId} {size : Nat} {u : Value} {n : Nat} {xs : List Value}, w.ownsRow base e size u n xs → w'.ownsRow base e size u n xs := fun {e size u n xs} ho => World.ownsRow.kept ho hg (by
    rcases he : u.ownBlock with _ | b
    · exact .inl rfl
    · exact .inr (fun e2 => by have := (World.ownsRow.lt ho b he).1; injection e2 with e2; omega))
  exact ⟨hk h.out, h.len, h.hold, fun k hlt => hk (h.row k hlt), h.ne, h.no⟩
theorem swap_id {w : World} {base : Nat} {v : Value} {H : List HV} {S : List Shr} (h : RowsI w base v H S) {i k : Nat} (hi : i < S.length) : ∃ g c B1 c1 B2 c2, k < S.length → v = .slice (some ⟨g, 0, none⟩) H.length c ∧ g < w.heap.size ∧ base ≤ g ∧ (hvAt H i).2 = .slice B1 (vS S i).length c1 ∧ (hvAt H k).2 = .slice B2 (vS S k).length c2 ∧
      w.cell? ⟨g, i * 2, none⟩ = some (.int .i64 (hS S i)) ∧ w.cell? ⟨g, i * 2 + 1, none⟩ = some (.slice B1 (vS S i).length c1) ∧ w.cell? ⟨g, k * 2, none⟩ = some (.int .i64 (hS S k)) ∧ w.cell? ⟨g, k * 2 + 1, none⟩ = some (.slice B2 (vS S k).length c2) ∧ ∀ j, w.frozen? ⟨g, j, none⟩ = false := by
  obtain ⟨g, c, hv, hg, hbg, -, -, hcell, hfr⟩ := h.out.form (by rw [h.len]; omega)
  obtain ⟨B1, c1, hv1, -⟩ := own_ints (h.row i hi) rfl
  obtain ⟨a1, a2⟩ := hcell i (by rw [h.len]; exact hi)
  by_cases hk : k < S.length
  · obtain ⟨B2, c2, hv2, -⟩ := own_ints (h.row k hk) rfl
    obtain ⟨a3, a4⟩ := hcell k (by rw [h.len]; exact hk)
    exact ⟨g, c, B1, c1, B2, c2, fun _ => ⟨hv, hg, hbg, hv1, hv2, by rw [a1, h.hold i hi], by rw [a2, hv1], by rw [a3, h.hold k hk], by rw [a4, hv2], hfr⟩⟩
  · exact ⟨g, c, B1, c1, none, 0, fun e => absurd e hk⟩
set_option maxRecDepth 100000 in
set_option maxHeartbeats 4000000 in
theorem turn_any {P : Nat → Prop} (D : Nat) (R : List Int) (A : Option Addr) (c : Nat) (S : List Shr) (least : Nat) (w : World) (hd : DiceAt w D R) (hS : ShP P w A c S) (hsh : Short S) (hl : S.length ≤ 100000) (hle : least ≤ 100000) :
    Calls Tryd.prog 28 #[.pointer (some ⟨D, 0, none⟩), .slice A S.length c, .int .i64 (least : Int)] w (TurnP D S least w) := by
  have hDlt := hd.lt
  have HCP := Lib.hid (copy_any A c S w hS hsh (by omega))
  clear hS hsh
  go_enter Tryd.func28, Tryd.ntmps28
  go_wp2_with fail
  refine HCP.out.mono ?_
  rintro e w1 ⟨v, H, rfl, hR, hb1⟩
  obtain ⟨OA, oc, rfl, -⟩ := hR.read
  have HR := Lib.hid hR
  have HB1 := Lib.hid hb1
  have hD1 := hd.below hb1
  have hg1 := grown_of_below (r := some D) hb1
  clear hR hb1 HCP
  go_wp2_with fail
  go_loopw [14] (fun i wr => ∃ (k : Nat) (Q : List Shr) (H : List HV) (R : List Int), k ≤ S.length ∧ i = .int .i64 k ∧ Q.length = S.length ∧ Q.Perm S ∧ RowsI wr w.heap.size (.slice OA S.length oc) H Q ∧ DiceAt wr D R ∧ w.grownBy wr (some D)) (fun i _ => S.length - (intOf i).toNat)
  case atStart => exact ⟨0, S, H, R, Nat.zero_le _, rfl, rfl, List.Perm.refl _, HR.out, hD1, hg1⟩
  case round =>
    obtain ⟨i, Q, H2, R2, hi, rfl, hQl, hperm, hR2, hDr, hgr⟩ := hrel
    have HQL := Lib.hid hQl
    have HPM := Lib.hid hperm
    have HR2 := Lib.hid hR2
    have hQ1 : Q.length ≤ S.length := by omega
    have hQ2 : S.length ≤ Q.length := by omega
    have hgs := hgr.size
    clear hQl hperm hR2 hD1 hg1 hd
    by_cases hlt : i < S.length
    · go_wp2_with fail
      refine (next_nat D R2 _ _ hDr (by omega) (by omega)).mono ?_
      rintro e w3 ⟨k, rfl, hk, hD3, hg3⟩
      have hki : k ≤ i := by omega
      have hR3 : RowsI w3 w.heap.size (.slice OA S.length oc) H2 Q := HR2.out.grown hg3 hDlt
      have hgw3 := grown_trans hgr hg3
      have HR3 := Lib.hid hR3
      have hz3 := hg3.size
      obtain ⟨g, c3, B1, c1, B2, c2, hall⟩ := swap_id (k := k) hR3 (show i < Q.length by omega)
      obtain ⟨hv, hg, hbg, hv1, hv2, a1, a2, a3, a4, hfr⟩ := hall (by omega)
      injection hv with hv3 hv4 hv5
      subst hv3; subst hv5
      have f1 := hfr (i * 2)
      have f2 := hfr (i * 2 + 1)
      have f3 := hfr (k * 2)
      have f4 := hfr (k * 2 + 1)
      have HV := Lib.hid (And.intro hv1 (And.intro hv2 hv4))
      have HH := Lib.hid (And.intro (HR3.out.hold i (by omega)) (HR3.out.hold k (by omega)))
      have HSW := Lib.hid (swapS_perm (S := Q) (i := i) (k := k) (by omega) (by omega))
      have HSL := Lib.hid (swapS_len Q i k)
      have hR3d : RowsI w3 w.heap.size (.slice (some ⟨g, 0, none⟩) H2.length oc) H2 Q := by rw [← hv4]; exact hR3
      have hsw := hR3d.swap (i := i) (k := k) (by omega) (by omega)
      rw [hv1, hv2, HR3.out.hold i (by omega), HR3.out.hold k (by omega), ← hv4] at hsw
      have HSWAP := Lib.hid hsw.drew
      have hsw1 := hR3d.swap (i := i) (k := i) (by omega) (by omega)
      rw [hv1, HR3.out.hold i (by omega), ← hv4] at hsw1
      have HSWAP1 := Lib.hid hsw1.drew
      clear hsw hsw1 hR3d
      have n1 : (0 : Int) ≤ (i : Int) := by omega
      have n2 : (i : Int) < (S.length : Int) := by omega
      have n3 : (0 : Int) ≤ (k : Int) := by omega
      have n4 : (k : Int) < (S.length : Int) := by omega
      generalize hS Q i = x1 at *
      generalize vS Q i = L1 at *
      generalize hS Q k = x2 at *
      generalize vS Q k = L2 at *
      clear hv1 hv2 hv4 hfr hall hDr hgr hR3 hg3
      go_wp2_with fail
      by_cases hik : i = k
      · subst hik
        go_region_law (fail)
        all_goals
          go_wp2_with fail
          go_roundw
          case rel => exact ⟨i + 1, swapS Q i i, swapH H2 i i, R2.tail, by omega, by go_num, HSL.out.trans HQL.out, HSW.out.trans HPM.out, HSWAP1.out, dice4 hD3 (by omega), grown4 hgw3 hbg⟩
          case measure => simp [intOf]; omega
      · have q1 : ¬ i * 2 = k * 2 := by omega
        have q2 : ¬ i * 2 + 1 = k * 2 := by omega
        have q3 : ¬ i * 2 = k * 2 + 1 := by omega
        have q4 : ¬ k * 2 = i * 2 := by omega
        have q5 : ¬ k * 2 + 1 = i * 2 := by omega
        have q6 : ¬ k * 2 = i * 2 + 1 := by omega
        go_region_law (fail)
        all_goals
          go_wp2_with fail
          go_roundw
          case rel => exact ⟨i + 1, swapS Q i k, swapH H2 i k, R2.tail, by omega, by go_num, HSL.out.trans HQL.out, HSW.out.trans HPM.out, HSWAP.out, dice4 hD3 (by omega), grown4 hgw3 hbg⟩
          case measure => simp [intOf]; omega
    · obtain rfl : i = S.length := by omega
      obtain ⟨_, _, hv, hX⟩ := HR2.out.read
      injection hv with hv1 hv2 hv3
      subst hv1; subst hv3
      have HX := Lib.hid (show ShP (· ≠ D) wr OA oc Q from hX.mono fun b _ hb => by omega)
      have hcap := hX.ok.len
      clear hX hv2
      by_cases hq : S.length ≤ least
      · have t1 : decide ((S.length : Int) ≤ (least : Int)) = true := decide_eq_true (by omega)
        have t2 : decide (S.length ≤ least) = true := decide_eq_true hq
        go_wp2_with fail
        go_ret
        exact ⟨OA, oc, S.length, Q, R2, rfl, HPM.out, Nat.le_refl _, .inr rfl, by rw [List.take_of_length_le hQ1]; exact HX.out, hDr, hgr⟩
      · have t1 : decide ((S.length : Int) ≤ (least : Int)) = false := decide_eq_false (by omega)
        have t2 : decide (S.length ≤ least) = false := decide_eq_false hq
        go_wp2_with fail
        refine (next_nat D R2 _ _ hDr (by omega) (by omega)).mono ?_
        rintro e w3 ⟨m, rfl, hm, hD3, hg3⟩
        have n1 : (0 : Int) ≤ (least : Int) + (m : Int) := by omega
        have n2 : (least : Int) + (m : Int) ≤ (oc : Int) := by omega
        have n3 : ((least : Int) + (m : Int)).toNat = least + m := by omega
        have HX3 := Lib.hid (HX.out.keep (Kept.mv hg3))
        have HG3 := Lib.hid (And.intro hD3 (grown_trans hgr hg3))
        have hml : least + m ≤ S.length := by omega
        clear hD3 hg3 hDr hgr hm
        go_wp2_with fail
        go_ret
        exact ⟨OA, oc, least + m, Q, R2.tail, rfl, HPM.out, hml, .inl (by omega), HX3.out.take _, HG3.out⟩
end Go.Proofs.YtlhipgejiacklaaDoor
namespace Go.Proofs.YtlhipgejiacklaaDoor
open Go.RowKit

attribute [local go_sem high] sliced_low
/-- All shares are the values of the polynomials F at their holders. -/
structure OnP (p h m : Nat) (F : Nat → List Nat) (N : List ShN) : Prop where
  on : ∀ s ∈ N, 1 ≤ s.1 ∧ s.1 ≤ h ∧ s.2 = (List.range m).map fun i => evN p (F i) s.1
  nd : (hsN N).Nodup
theorem mem_at {N : List ShN} {k : Nat} (hk : k < N.length) : (hN N k, vN N k) ∈ N := by rw [← getD_at hk]; exact List.getElem_mem hk
theorem OnP.at_ {p h m : Nat} {F : Nat → List Nat} {N : List ShN} (H : OnP p h m F N) {k : Nat} (hk : k < N.length) : 1 ≤ hN N k ∧ hN N k ≤ h ∧ vN N k = (List.range m).map fun i => evN p (F i) (hN N k) := H.on _ (mem_at hk)
theorem OnP.good {p h m : Nat} {F : Nat → List Nat} {N : List ShN} (H : OnP p h m F N) (hp : 1 ≤ p) (hm : m ≤ 2048) : GoodN p h N := by
  have hl : ∀ k, k < N.length → (vN N k).length = m := fun k hk => by rw [(H.at_ hk).2.2]; simp
  refine ⟨fun k hk => ⟨(H.at_ hk).1, (H.at_ hk).2.1, fun x hx => ?_⟩, fun k hk => by rw [hl k hk, hl 0 (by omega)], fun k hk => by rw [hl k hk]; exact hm, H.nd⟩
  rw [(H.at_ hk).2.2] at hx
  obtain ⟨i, -, rfl⟩ := List.mem_map.1 hx
  exact evN_lt hp _ _
theorem OnP.sub {p h m : Nat} {F : Nat → List Nat} {N M : List ShN} (H : OnP p h m F N) (hs : M.Sublist N) : OnP p h m F M := ⟨fun s h => H.on s (hs.subset h), H.nd.sublist (hs.map _)⟩
theorem OnP.take {p h m : Nat} {F : Nat → List Nat} {N : List ShN} (H : OnP p h m F N) (n : Nat) : OnP p h m F (N.take n) := H.sub (List.take_sublist _ _)
theorem OnP.perm {p h m : Nat} {F : Nat → List Nat} {N M : List ShN} (H : OnP p h m F N) (hs : M.Perm N) : OnP p h m F M := ⟨fun s h => H.on s (hs.subset h), (hs.map Prod.fst).nodup_iff.2 H.nd⟩
theorem OnP.val {p h m : Nat} {F : Nat → List Nat} {N : List ShN} (H : OnP p h m F N) {k i : Nat} (hk : k < N.length) (hi : i < m) : nthN (vN N k) i = evN p (F i) (hN N k) := by
  rw [(H.at_ hk).2.2, nthN_eq (by simpa using hi)]; simp
theorem OnP.weigh {p h m n : Nat} {F : Nat → List Nat} {N : List ShN} (H : OnP p h m F N) (hp : PrimeN p) (hh : h < p) (hn : n ≤ N.length) (hF : ∀ i, i < m → (F i).length ≤ n) {i : Nat} (hi : i < m) (x : Nat) :
    wgN p (wsN p (hsN (N.take n)) x) (colN (N.take n) i) n = evN p (F i) x := by
  have hT := H.take n
  have hl : (N.take n).length = n := by rw [List.length_take]; omega
  have hlt : ∀ y ∈ hsN (N.take n), y < p := fun y hy => by
    obtain ⟨s, hs, rfl⟩ := List.mem_map.1 hy
    have := hT.on s hs; omega
  have := interpN (L := F i) (ys := colN (N.take n) i) hp hlt hT.nd (by rw [hsN_len, hl]; exact hF i hi) (fun k hk => by
    rw [hsN_len] at hk
    rw [colN_nth hk, hsN_nth hk, hT.val hk hi]) x
  rw [hsN_len, hl] at this; exact this
theorem OnP.comb {p h m n : Nat} {F : Nat → List Nat} {N : List ShN} (H : OnP p h m F N) (hp : PrimeN p) (hh : h < p) (h1 : 1 ≤ n) (hn : n ≤ N.length) (hF : ∀ i, i < m → (F i).length ≤ n) :
    combN p n N = (List.range m).map fun i => evN p (F i) 0 := by
  have h0 : (vN N 0).length = m := by rw [(H.at_ (show 0 < N.length by omega)).2.2]; simp
  unfold combN
  rw [h0]
  refine List.map_congr_left fun i hi => ?_
  exact H.weigh hp hh hn hF (List.mem_range.1 hi) 0
theorem OnP.fit {p h m n : Nat} {F : Nat → List Nat} {N : List ShN} (H : OnP p h m F N) (hp : PrimeN p) (hh : h < p) (hn : n ≤ N.length) (hF : ∀ i, i < m → (F i).length ≤ n) : FitP p n N := fun k _ hk2 i hi => by
  have h0 : (vN N 0).length = m := by rw [(H.at_ (show 0 < N.length by omega)).2.2]; simp
  rw [h0] at hi
  unfold fitAt
  rw [H.weigh hp hh hn hF hi, H.val hk2 hi]

/-! ### What the functions say of such shares -/
theorem plB_true {p n h : Nat} (h1 : 1 ≤ n) (h2 : n ≤ h) (h3 : h ≤ 16) (h4 : h < p) (hv : validI (p : Int) = true) : plB p n h = true := (plB_yes ⟨by omega, by omega, by omega, by omega, hv⟩).symm
theorem cm_on {p n h m : Nat} {F : Nat → List Nat} {N : List ShN} (H : OnP p h m F N) (hp : PrimeN p) (hpl : plB p n h = true) (hm : m ≤ 2048) (hn : n ≤ N.length) (hF : ∀ i, i < m → (F i).length ≤ n) :
    cmE p n h (shL N) = 0 ∧ cmL p n h (shL N) = (List.range m).map fun i => evN p (F i) 0 := by
  obtain ⟨l1, l2, l3, l4, -⟩ := of_decide_eq_true hpl
  have hg := (gdB_yes (gd_back (H.good (by omega) hm))).symm
  have he := (cmE_ok hpl hg (by rw [shL_len]; omega)).symm
  exact ⟨he, by rw [cmL_ok he, H.comb hp (by omega) (by omega) hn hF]⟩
theorem cm_few {p n h m : Nat} {F : Nat → List Nat} {N : List ShN} (H : OnP p h m F N) (hpl : plB p n h = true) (hm : m ≤ 2048) (hn : N.length < n) : cmE p n h (shL N) = 5 := by
  obtain ⟨l1, l2, l3, l4, -⟩ := of_decide_eq_true hpl
  exact (cmE_few hpl (gdB_yes (gd_back (H.good (by omega) hm))).symm (by rw [shL_len]; omega)).symm
theorem ft_on {p n h m : Nat} {F : Nat → List Nat} {N : List ShN} (H : OnP p h m F N) (hp : PrimeN p) (hpl : plB p n h = true) (hm : m ≤ 2048) (hF : ∀ i, i < m → (F i).length ≤ n) : ftB p n h (shL N) = true := by
  obtain ⟨l1, l2, l3, l4, -⟩ := of_decide_eq_true hpl
  have hg := (gdB_yes (gd_back (H.good (by omega) hm))).symm
  by_cases hn : (N.length : Int) ≤ n
  · exact (ftB_few hpl hg (by rw [shL_len]; exact hn)).symm
  · have := ftB_more hpl hg (by rw [shL_len]; exact hn)
    rw [natL_shL, Int.toNat_natCast, Int.toNat_natCast] at this
    exact (ftB_yes this (H.fit hp (by omega) (by omega) hF)).symm
/-- Another order of such shares. -/
theorem on_perm {p h m : Nat} {F : Nat → List Nat} {N : List ShN} (H : OnP p h m F N) {Q : List Shr} (hq : Q.Perm (shL N)) : ∃ M, Q = shL M ∧ M.length = N.length ∧ OnP p h m F M := by
  have h1 : (natL Q).Perm N := by have := hq.map natS; rwa [show (shL N).map natS = N from natL_shL N] at this
  have h2 : Q = shL (natL Q) := by
    simp only [shL, natL, List.map_map]
    conv => lhs; rw [← List.map_id Q]
    refine List.map_congr_left fun s hs => ?_
    obtain ⟨t, -, rfl⟩ := List.mem_map.1 (hq.subset hs)
    simp only [Function.comp, natS, shI, Int.toNat_natCast, toNat_ofN, id]
  exact ⟨natL Q, h2, h1.length_eq, H.perm h1⟩

/-! ### Dealt shares -/
theorem evN_at0 {p : Nat} {L : List Nat} (h : ∀ x ∈ L, x < p) (hp : 1 ≤ p) : evN p L 0 = nthN L 0 := by
  cases L with
  | nil => rfl
  | cons c L =>
    have hc := h c (by simp)
    simp only [evN, nthN, List.getD_cons_zero, fmul, fadd, Nat.mul_zero, Nat.zero_mod, Nat.zero_add]
    exact Nat.mod_eq_of_lt hc
theorem polN_zero {sec ran : List Nat} {k i : Nat} : nthN (polN sec ran k i) 0 = nthN sec i := by simp [polN, nthN]
theorem deal_on {p n h : Nat} {sec ran : List Nat} : OnP p h sec.length (fun i => polN sec ran (n - 1) i) (dealN p n h sec ran) := by
  refine ⟨fun s hs => ?_, ?_⟩
  · obtain ⟨j, hj, rfl⟩ := List.mem_map.1 hs
    have := List.mem_range.1 hj
    exact ⟨by simp, by simp only; omega, rfl⟩
  · refine nodup_hsN fun k hk j hj => ?_
    unfold dealN at hk ⊢
    rw [dealtT_len] at hk
    rw [(dealtT_at hk).1, (dealtT_at (show j < h by omega)).1]; omega
theorem deal_len (p n h : Nat) (sec ran : List Nat) : (dealN p n h sec ran).length = h := dealtT_len _ _ _ _ _ _
theorem deal_sec {p n : Nat} {sec ran : List Nat} (hp : 1 ≤ p) (hs : ∀ x ∈ sec, x < p) (hr : ∀ x ∈ ran, x < p) : (List.range sec.length).map (fun i => evN p (polN sec ran (n - 1) i) 0) = sec := by
  refine extN (by simp) fun k hk => ?_
  simp only [List.length_map, List.length_range] at hk
  rw [nthN_eq (by simpa using hk)]
  simp only [List.getElem_map, List.getElem_range]
  rw [evN_at0 (polN_lt hp hs hr _ _) hp, polN_zero]
theorem polN_le {sec ran : List Nat} {n i : Nat} (h1 : 1 ≤ n) : (polN sec ran (n - 1) i).length ≤ n := Nat.le_trans polN_len (by omega)
theorem dl_nats {p n h : Nat} {sec ran : List Nat} (hpl : plB p n h = true) (hm : sec.length ≤ 2048) (hs : ∀ x ∈ sec, x < p) (hr : ∀ x ∈ ran, x < p) (hl : ran.length = sec.length * (n - 1)) :
    dlE p n h (ofN sec) (ofN ran) = 0 ∧ dlL p n h (ofN sec) (ofN ran) = dealN p n h sec ran := by
  obtain ⟨l1, l2, l3, l4, -⟩ := of_decide_eq_true hpl
  have he : dlE p n h (ofN sec) (ofN ran) = 0 := dlE_ok hpl (by rw [len_ofN]; omega) ⟨nat_inside hs, nat_inside hr, by
    rw [len_ofN, len_ofN, hl, show ((n : Int) - 1) = ((n - 1 : Nat) : Int) by omega]; push_cast; rfl⟩
  exact ⟨he, by unfold dlL; rw [if_pos he, toNat_ofN, toNat_ofN, Int.toNat_natCast, Int.toNat_natCast, Int.toNat_natCast]⟩
theorem deal_nats {p n h : Nat} {A B : Option Addr} {ca cb : Nat} {sec ran : List Nat} {w : World} (hv : primeV p = validI p) (hB : Bases w) (hA : NatsAt w A sec) (hR : NatsAt w B ran) (hok : SlOK B cb ran)
    (hpl : plB p n h = true) (hm : sec.length ≤ 2048) (hs : ∀ x ∈ sec, x < p) (hr : ∀ x ∈ ran, x < p) (hl : ran.length = sec.length * (n - 1)) (hl2 : ran.length ≤ 1048576) :
    Calls Tryd.prog 50 #[planV p n h, .slice A sec.length ca, .slice B ran.length cb] w (ShErr (shL (dealN p n h sec ran)) 0 w) := by
  obtain ⟨e1, e2⟩ := dl_nats hpl hm hs hr hl
  have := dealS_any p n h A B ca cb (ofN sec) (ofN ran) w hv hB hA.ints hR.ints (by rw [len_ofN]; exact hok.iok) (by rw [len_ofN]; omega) (by rw [len_ofN]; exact hl2)
  rw [e1, e2, len_ofN, len_ofN] at this
  exact this

theorem prime_valid {p : Nat} (hp : PrimeN p) (h : p ≤ 1073741824) : primeV p = validI p ∧ validI (p : Int) = true := by
  have h1 := validI_prime hp h
  exact ⟨by rw [h1]; exact (primeV_true h hp).symm, h1⟩
theorem deal_awake : dealN 7 2 3 [3] [1] = [(1, [4]), (2, [5]), (3, [6])] := by decide +kernel
end Go.Proofs.YtlhipgejiacklaaDoor
namespace Go.Proofs.YtlhipgejiacklaaDoor
open Go.RowKit

theorem PlanCell.mv {w w' : World} {x D : Nat} {p n h : Int} (H : PlanCell w x p n h) (hg : w.grownBy w' (some D)) (hne : x ≠ D) : PlanCell w' x p n h := H.keep (hg.block x H.lt (fun e => by injection e with e; exact hne e))
theorem grown_undrew {w w' : World} {r : Option Nat} (h : w.drew.grownBy w' r) : w.grownBy w' r := ⟨h.os, h.tape, h.output, h.size, h.block⟩
theorem Env.bases {w w' : World} {D : Nat} {R : List Int} (h : Env w w' D R) (hB : Bases w) : Bases w' := hB.below h.below hB.1
theorem ShErr.open_ {S : List Shr} {er : Int} {w w' : World} {e : Ending} (h : ShErr S er w e w') : ∃ A c, e = .returned (.tuple #[.slice A S.length c, .int .i64 er]) ∧ ShP (fun b => w.heap.size ≤ b) w' A c S ∧ Below w.heap.size w w' := h
theorem ShP.away {w w' : World} {D : Nat} {A : Option Addr} {c : Nat} {S : List Shr} (h : ShP (fun b => w.heap.size ≤ b) w' A c S) (hD : D < w.heap.size) : ShP (· ≠ D) w' A c S := h.mono fun b _ hb => by omega
theorem short_shL {N : List ShN} (h : ∀ k, k < N.length → (vN N k).length ≤ 1048576) : Short (shL N) := fun k hk => by
  rw [shL_len] at hk
  rw [vS_shL, len_ofN]; exact h k hk
theorem OnP.short {p h m : Nat} {F : Nat → List Nat} {N : List ShN} (H : OnP p h m F N) (hm : m ≤ 1048576) : Short (shL N) := short_shL fun k hk => by rw [(H.at_ hk).2.2]; simp; exact hm
end Go.Proofs.YtlhipgejiacklaaDoor
