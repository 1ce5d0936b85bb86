/-
  BudgetMade: the statement that appends a row of two drawn numbers.
-/
import Derived.Test.YtmnkgfimdlhhiaaBudNeverW
import Derived.Conc.EntryLaws
import Derived.Deep.DeepCutAuto
namespace Go.Proofs.Ytmnkgfimdlhhiaa
open Go.RowKit

/-- Block g is the numbers L, just made. -/
def Lit (w : World) (g : Nat) (L : List Int) : Prop := w.heap[g]? = some (.cells (L.map (Value.int .i64)).toArray 3 (0, 0))
theorem Lit.new (w : World) (g : Nat) (L : List Int) (h : g = w.heap.size) : Lit (w.alloc (.cells (L.map (Value.int .i64)).toArray 3)) g L := by subst h; exact heap_alloc_new w _
theorem Lit.alloc {w : World} {g : Nat} {L : List Int} (h : Lit w g L) (o : Obj) : Lit (w.alloc o) g L := (heap_alloc_old w o (blk_lt h)).trans h
theorem Lit.grown {w w' : World} {g D : Nat} {L : List Int} (h : Lit w g L) (hg : w.grownBy w' (some D)) (hne : g ≠ D) : Lit w' g L :=
  (hg.block g (blk_lt h) (fun e => by injection e with e; exact hne e)).trans h
theorem Lit.drew {w : World} {g : Nat} {L : List Int} (h : Lit w g L) : Lit w.drew g L := h
theorem Lit.ints {w : World} {g : Nat} {L : List Int} (h : Lit w g L) : IntsAt w (some ⟨g, 0, none⟩) L := fun k hk =>
  ⟨g, 0, rfl, blk_lt h, by rw [cell_of_row w g _ _ _ (0, 0) h]; simp [hk, nth_eq hk]⟩

/-- What stays while the row is made. -/
structure St18 (w : World) (D base bx : Nat) (P A : Int) (v : Value) (S : List Spd) (W : World) : Prop where
  box : BudCell W bx P A v
  own : SpOwn W base v S
  dice : ∃ R, DiceAt W D R
  below : Below w.heap.size w W
  lt : w.heap.size < W.heap.size
theorem St18.alloc {w : World} {D base bx : Nat} {P A : Int} {v : Value} {S : List Spd} {W : World} (h : St18 w D base bx P A v S W) (o : Obj) : St18 w D base bx P A v S (W.alloc o) :=
  ⟨h.box.alloc o, h.own.below (below_alloc W o), let ⟨R, hR⟩ := h.dice; ⟨R, hR.alloc o⟩, h.below.alloc h.below.size o, by have := h.lt; simp; omega⟩
theorem St18.drew {w : World} {D base bx : Nat} {P A : Int} {v : Value} {S : List Spd} {W : World} (h : St18 w D base bx P A v S W) : St18 w D base bx P A v S W.drew :=
  ⟨h.box, h.own, h.dice, h.below.drew, h.lt⟩
theorem St18.grown {w : World} {D base bx : Nat} {P A : Int} {v : Value} {S : List Spd} {W W' : World} {R : List Int} (h : St18 w D base bx P A v S W) (hD : DiceAt W' D R) (hg : W.grownBy W' (some D)) (h1 : w.heap.size ≤ D) (h2 : D < base) (h3 : D < bx) : St18 w D base bx P A v S W' :=
  ⟨h.box.grown hg (by omega), h.own.grown hg h2, ⟨R, hD⟩, h.below.grown hg h.below.size (fun j hj => by injection hj with hj; omega), Nat.lt_of_lt_of_le h.lt hg.size⟩

theorem enter_of (args : Array Value) (w : World) : (callFunc 17 args).run Try.prog w = .ok (.enter 17 args) w :=
  Go.MuLone.run_callFunc_enter Try.func17 (by kernel_rfl) rfl args w
theorem step_of {ops : Array Oper} {o : Oper} {a : Act} {K : Act → World → Prop} {Q : Exit → Act → World → Prop} {E : Prop} (W : World) (hgd : o.guard = none) (s x : Operand)
    (ho : o.op = .call { callee := .value (.func 17), args := #[s, x], argTypes := #[29, 27] })
    (w : World) (D base bx : Nat) (P A : Int) (v : Value) (S : List Spd) (h1 : w.heap.size ≤ D) (h2 : D < base) (h3 : D < bx) (g : Nat) (L : List Int)
    (hs : a.eval s = .pointer (some ⟨D, 0, none⟩)) (hx : a.eval x = .slice (some ⟨g, 0, none⟩) L.length L.length) (h0 : 0 < L.length) (hl : L.length ≤ 1000)
    (hSt : St18 w D base bx P A v S W) (hL : Lit W g L) (hne : g ≠ D)
    (h : ∀ (k : Nat) (w' : World), k < L.length → St18 w D base bx P A v S w' → W.grownBy w' (some D) → K (a.put o.dst (.int .i64 (nth L k))) w') :
    if Region.wanted o (yielded ops a.tmps) = true then Oper.wp Try.prog o a W K Q else E := by
  have hw : Region.wanted o (yielded ops a.tmps) = true := by simp [Region.wanted, hgd]
  rw [if_pos hw]
  obtain ⟨R, hR⟩ := hSt.dice
  have hof := of_any D R (some ⟨g, 0, none⟩) L L.length W hR hL.ints (fun b off e => by injection e with e; injection e with e1; omega) h0 hl
  have hc : (execOp a.eval o).run Try.prog W = .ok (.enter 17 #[.pointer (some ⟨D, 0, none⟩), .slice (some ⟨g, 0, none⟩) L.length L.length]) W := by
    rw [Go.Conc.execOp_call_func ho, enter_of]
    simp [hs, hx]
  unfold Oper.wp
  rw [hc]
  refine Calls.mono hof ?_
  intro e w' hr
  obtain ⟨k, hk, rfl, hD', hg'⟩ := hr
  exact h k w' hk (hSt.grown hD' hg' h1 h2 h3) hg'
theorem SpOwn.set_ne {w : World} {base g n c : Nat} {S : List Spd} (h : SpOwn w base (.slice (some ⟨g, 0, none⟩) n c) S) (p : Addr) (u : Value) (hp : g ≠ p.block) : SpOwn (w.setCell p u) base (.slice (some ⟨g, 0, none⟩) n c) S := by
  obtain ⟨h1, h2⟩ := h
  refine ⟨h1, ?_⟩
  rcases h2 with ⟨h0, _⟩ | ⟨g', cap, cur, hv, hg, hh, r⟩
  · cases h0
  · have e : g = g' := by injection hv with e1; injection e1 with e1; injection e1
    subst e
    exact .inr ⟨g, cap, cur, hv, hg, (Below.heap_setCell w p u g hp).trans hh, r⟩
theorem step_app3 {ops : Array Oper} {o : Oper} {a : Act} {K : Act → World → Prop} {Q : Exit → Act → World → Prop} {E : Prop} (W : World) (hgd : o.guard = none) (s x : Operand)
    (ho : o.op = .call { callee := .builtin .append, args := #[s, x], argTypes := #[22, 22] })
    (w w5 : World) (D base bx : Nat) (P A t c : Int) (v : Value) (n : Nat) (S : List Spd) (hs : a.eval s = v) (hx : a.eval x = .slice (some ⟨w5.heap.size, 0, none⟩) 1 1)
    (hW : W.heap = (w5.alloc (.cells #[.int .i64 t, .int .i64 c] 33)).heap ∧ W.os = w5.os ∧ W.tape = w5.tape ∧ W.output = w5.output)
    (hn : n = S.length) (hl : n ≤ 100000) (hst : St18 w D base bx P A v S w5) (hwb : w.heap.size ≤ base) (hbs : base ≤ w5.heap.size) (hne : ∀ k, v.ownBlock = some k → k ≠ bx)
    (h : ∀ g cap w', SpOwn w' base (.slice (some ⟨g, 0, none⟩) (n + 1) cap) (S ++ [(t, c)]) → BudCell w' bx P A v → Below w.heap.size w w' → g ≠ bx → w'.cell? ⟨bx, 2, none⟩ = some v → w'.frozen? ⟨bx, 2, none⟩ = false → K (a.put o.dst (.slice (some ⟨g, 0, none⟩) (n + 1) cap)) w') :
    if Region.wanted o (yielded ops a.tmps) = true then Oper.wp Try.prog o a W K Q else E := by
  obtain ⟨i0, hi, hz0, hz1, hz2⟩ := info_parts info_spend
  have hown := hst.own
  have hownW : SpOwn W base v S := by
    obtain ⟨h1, h2⟩ := hown.below (below_alloc w5 (.cells #[.int .i64 t, .int .i64 c] 33))
    refine ⟨h1, ?_⟩
    rw [hW.1]; exact h2
  have hsz : W.heap.size = w5.heap.size + 1 := by rw [hW.1]; simp
  have hcell : ∀ x, W.cell? x = (w5.alloc (.cells #[.int .i64 t, .int .i64 c] 33)).cell? x := fun x => by unfold World.cell?; rw [hW.1]
  have hbx := blk_lt hst.box
  refine step_append_lies _ hgd s x 22 ho base 33 i0 _ 2 16 Try.underlying22 hi hz0 hz1 hz2 rfl (by omega) v n (flat S) hs (by rw [hn]; exact hownW) ⟨w5.heap.size, 0, none⟩ 1 1 [.int .i64 t, .int .i64 c] hx rfl (fun j u hu => (hcell _).trans (news_pair w5 t c j u hu)) (by simp [Value.oneCell']) (by omega) (by unfold maxLen; omega) (by omega) (by omega) _ rfl ?_
  intro g cap w' ho' hg hat _
  obtain ⟨h1, h2⟩ := app_kept hg hst.below hst.box hW (fun e => hne _ e.symm rfl) (fun k e => by have := (hown.lt k e).1; omega) hst.lt
  refine h g cap w' ?_ h1 h2 ?_ h1.c2 (h1.frozen 2)
  · unfold SpOwn; rw [List.length_append, flat_append, ← hn]; exact ho'
  · rcases hat with e | e
    · exact hne g e
    · omega
theorem Cut18.mk {w w9 : World} {base bx g cap n : Nat} {P A t c : Int} {v : Value} {S : List Spd} (hown : SpOwn w9 base (.slice (some ⟨g, 0, none⟩) (n + 1) cap) (S ++ [(t, c)])) (hX : BudCell w9 bx P A v) (hb : Below w.heap.size w w9) (hg : g ≠ bx) (hn : S.length = n) (hbx : w.heap.size ≤ bx) :
    SpAt (w9.setCell ⟨bx, 2, none⟩ (.slice (some ⟨g, 0, none⟩) (n + 1) cap)) (some ⟨g, 0, none⟩) (S ++ [(t, c)]) ∧ (S ++ [(t, c)]).length = n + 1 ∧ BudCell (w9.setCell ⟨bx, 2, none⟩ (.slice (some ⟨g, 0, none⟩) (n + 1) cap)) bx P A (.slice (some ⟨g, 0, none⟩) (n + 1) cap) ∧ Below w.heap.size w (w9.setCell ⟨bx, 2, none⟩ (.slice (some ⟨g, 0, none⟩) (n + 1) cap)) := by
  obtain ⟨C, c', hv, hs, -, -⟩ := (hown.set_ne ⟨bx, 2, none⟩ (.slice (some ⟨g, 0, none⟩) (n + 1) cap) hg).at_
  injection hv with e1 e2 e3
  subst e1
  exact ⟨hs, by simp [hn], hX.set2 _, below_set hb _ _ hbx⟩
theorem own_ne {w : World} {base n c bx : Nat} {C : Option Addr} {S : List Spd} (h : SpOwn w base (.slice C n c) S) (hb : ∀ b off, C = some ⟨b, off, none⟩ → b < bx) : ∀ k, (Value.slice C n c).ownBlock = some k → k ≠ bx := fun k hk => by
  rcases h.2 with ⟨h0, _⟩ | ⟨g', cap, cur, hv, _⟩
  · injection h0 with h1; rw [h1] at hk; cases hk
  · injection hv with h1; rw [h1] at hk; injection hk with hk; have := hb g' 0 h1; simp at hk; omega
end Go.Proofs.Ytmnkgfimdlhhiaa
