/-
  A region's operations, one by one: addresses, sums, literals, append.
  StatisticMade: the region that adds a line.
  StatisticMade: the walk.
  A slice of numbers that came in reads as a list.
  An array of two numbers that came in.
  Conditions: those that each theorem names.
-/
import Derived.Test.YtmnkgfimdlhhiaaM5
import Derived.Deep.AppendLies
import Derived.BigQuiet
import Derived.Deep.DeepCutAuto
import Derived.Deep.CutBlock
import Derived.ChangeSame
set_option linter.unusedVariables false
set_option linter.unusedSimpArgs false
namespace Go.Proofs.Ytmnkgfimdlhhiaa
open Go.RowKit

section
variable {P : Program} {ops : Array Oper} {o : Oper} {a : Act} {K : Act → World → Prop} {Q : Exit → Act → World → Prop} {E : Prop} {w : World}
theorem J_fieldAddr (hgd : o.guard = none) (s : TypeId) (x : Operand) (f : Nat) (ho : o.op = .fieldAddr s x f) {v : Value} (h : (Instr.fieldAt s (a.eval x) f).run P w = .ok v w) (hK : K (a.put o.dst v) w) :
    if Region.wanted o (yielded ops a.tmps) = true then Oper.wp P o a w K Q else E :=
  J_val hgd (by unfold execOp; rw [ho]; exact run_val h) hK
theorem J_indexAddr (hgd : o.guard = none) (t : TypeId) (x ix : Operand) (ho : o.op = .indexAddr t x ix) {v : Value} (h : (Instr.indexAt t (a.eval x) (a.eval ix)).run P w = .ok v w) (hK : K (a.put o.dst v) w) :
    if Region.wanted o (yielded ops a.tmps) = true then Oper.wp P o a w K Q else E :=
  J_val hgd (by unfold execOp; rw [ho]; exact run_val h) hK
theorem J_binOp (hgd : o.guard = none) (b : BinOp) (t : TypeId) (x y : Operand) (u : TypeId) (ho : o.op = .binOp b t x y u) {v : Value} (h : (do Go.eqGuard b t x y (a.eval x) (a.eval y); Go.binOp b t (a.eval x) (a.eval y) : Sem Value).run P w = .ok v w) (hK : K (a.put o.dst v) w) :
    if Region.wanted o (yielded ops a.tmps) = true then Oper.wp P o a w K Q else E :=
  J_val hgd (by unfold execOp; rw [ho]; exact run_val h) hK
theorem J_build (hgd : o.guard = none) (t : TypeId) (parts : Array (Nat × Operand)) (ho : o.op = .build t parts) {v : Value} (h : (Instr.build t (parts.map fun (i, x) => (i, a.eval x))).run P w = .ok v w) (hK : K (a.put o.dst v) w) :
    if Region.wanted o (yielded ops a.tmps) = true then Oper.wp P o a w K Q else E :=
  J_val hgd (by unfold execOp; rw [ho]; exact run_val h) hK
theorem J_buildSlice (hgd : o.guard = none) (t : TypeId) (n : Nat) (parts : Array (Nat × Operand)) (ho : o.op = .buildSlice t n parts) {v : Value} {w' : World} (h : (Instr.buildSlice t n (parts.map fun (i, x) => (i, a.eval x))).run P w = .ok v w') (hK : K (a.put o.dst v) w') :
    if Region.wanted o (yielded ops a.tmps) = true then Oper.wp P o a w K Q else E :=
  J_val hgd (by unfold execOp; rw [ho]; exact run_val h) hK
end
/-- append of one element, from a literal that lies anywhere. -/
theorem J_app {α : Type} (E : El α) {t ty : TypeId} {z : Value} {bytes : Nat} (ht : Try.prog.underlying t = some (.slice ty)) (hinfo : (Try.prog.info? ty).map (fun i => (i.zero, i.size, i.bytes)) = some (some z, E.n, bytes)) (hzs : z.cells.size = E.n)
    {ops : Array Oper} {o : Oper} {a : Act} {K : Act → World → Prop} {Q : Exit → Act → World → Prop} {X : Prop} (W : World) (hgd : o.guard = none) (s x : Operand)
    (ho : o.op = .call { callee := .builtin .append, args := #[s, x], argTypes := #[t, t] })
    (base : Nat) (v : Value) (D : List α) (y : α) (g0 : Nat) (hs : a.eval s = v) (hx : a.eval x = .slice (some ⟨g0, 0, none⟩) 1 1)
    (hlit : ElAt E W (some ⟨g0, 0, none⟩) [y]) (hl : D.length ≤ 100000) (hb : bytes ≤ 1000) (hown : ElOwn E ty W base v D) (hbase : base ≤ W.heap.size)
    (h : ∀ g cap w', ElOwn E ty w' base (.slice (some ⟨g, 0, none⟩) (D.length + 1) cap) (D ++ [y]) → W.grownBy w' v.ownBlock → (v.ownBlock = some g ∨ g = W.heap.size) → K (a.put o.dst (.slice (some ⟨g, 0, none⟩) (D.length + 1) cap)) w') :
    if Region.wanted o (yielded ops a.tmps) = true then Oper.wp Try.prog o a W K Q else X := by
  obtain ⟨i0, hi, hz0, hz1, hz2⟩ := info_parts hinfo
  have hE1 : E.flat [y] = E.f y := by simp [El.flat]
  have hn := hlit.news
  rw [hE1] at hn
  have hbb : (D.length + 1) * bytes ≤ 100001 * 1000 := Nat.mul_le_mul (by omega) hb
  refine step_append_lies _ hgd s x t ho base ty i0 z E.n bytes ht hi hz0 hz1 hz2 hzs E.pos v D.length (E.flat D) hs hown ⟨g0, 0, none⟩ 1 1 (E.f y) hx (by rw [E.len]; simp) hn (fun u hu => E.one y u hu) (by omega) (by unfold maxLen; omega) (by omega) hbase _ rfl ?_
  intro g cap w' ho' hg hor _
  refine h g cap w' ?_ hg hor
  unfold ElOwn; rw [List.length_append, E.flat_append, hE1, List.length_singleton]; exact ho'
end Go.Proofs.Ytmnkgfimdlhhiaa
namespace Go.Proofs.Ytmnkgfimdlhhiaa
open Go.RowKit

/-- The two numbers, in their box. -/
def ArrCell (w : World) (x : Nat) (a b : Int) : Prop := w.heap[x]? = some (.cells #[.int .i64 a, .int .i64 b] 67 (0, 0))
theorem ArrCell.c0 {w : World} {x : Nat} {a b : Int} (h : ArrCell w x a b) : w.cell? ⟨x, 0, none⟩ = some (.int .i64 a) := by rw [cell_of_row w x 0 _ _ (0, 0) h]; rfl
theorem ArrCell.c1 {w : World} {x : Nat} {a b : Int} (h : ArrCell w x a b) : w.cell? ⟨x, 1, none⟩ = some (.int .i64 b) := by rw [cell_of_row w x 1 _ _ (0, 0) h]; rfl
theorem ArrCell.lt {w : World} {x : Nat} {a b : Int} (h : ArrCell w x a b) : x < w.heap.size := blk_lt h
theorem ArrCell.kep {X : Nat → Prop} {w w' : World} {x : Nat} {a b : Int} (h : ArrCell w x a b) (hk : Kep X w w') (hX : ¬ X x) : ArrCell w' x a b := (hk.block x h.lt hX).trans h
theorem ArrCell.below {w w' : World} {x : Nat} {a b : Int} (h : ArrCell w x a b) (hb : Below w.heap.size w w') : ArrCell w' x a b := (hb.block x h.lt).trans h
theorem ArrCell.new {w : World} {i : Nat} (a b : Int) (h : i = w.heap.size) : ArrCell (w.alloc (.cells #[.int .i64 a, .int .i64 b] 67)) i a b := by subst h; exact heap_alloc_new w _
theorem Kep.weak {X Y : Nat → Prop} {w w' : World} (h : Kep X w w') (hXY : ∀ b, X b → Y b) : Kep Y w w' := ⟨h.os, h.tape, h.output, h.size, fun b hl hy => h.block b hl (fun hx => hy (hXY b hx))⟩

structure R27 (W0 : World) (D bs gc xb nb : Nat) (t8 x0 x1 T : Int) (U9 : Option Addr) (uc9 : Nat) (Ls : List Spd) (V : Nat → Value) (L : Nat → Bool) (w : World) : Prop where
  kp : Kep (fun b => b = D ∨ bs ≤ b) W0 w
  dice : ∃ R, DiceAt w D R
  tab : L 18 = false → TabCell w gc t8 (.slice U9 Ls.length uc9)
  own : L 16 = false → ElOwn elL 74 w bs (.slice U9 Ls.length uc9) Ls
  v0 : L 0 = true → V 0 = .pointer (some ⟨gc, 1, none⟩)
  v1 : L 1 = true → V 1 = .slice U9 Ls.length uc9
  v2 : L 2 = true → V 2 = .pointer (some ⟨xb, 0, none⟩)
  v3 : L 3 = true → V 3 = .int .i64 x0
  v4 : L 4 = true → V 4 = .pointer (some ⟨D, 0, none⟩)
  v5 : L 5 = true → V 5 = .pointer (some ⟨nb, 0, none⟩)
  v6 : L 6 = true → V 6 = .int .i64 T
  v7 : L 7 = true → V 7 = .pointer (some ⟨nb, 0, none⟩)
  v8 : L 8 = true → V 8 = .int .i64 T
  v9 : L 9 = true → ∃ z, V 9 = .int .i64 z
  v10 : L 10 = true → V 10 = .pointer (some ⟨xb, 1, none⟩)
  v11 : L 11 = true → V 11 = .int .i64 x1
  v12 : L 12 = true → ∃ g z, V 12 = .slice (some ⟨g, 0, none⟩) 4 4 ∧ W0.heap.size ≤ g ∧ (L 13 = false → IntsAt w (some ⟨g, 0, none⟩) [-1, T, z, x1])
  v13 : L 13 = true → ∃ y, V 13 = .int .i64 y
  v14 : L 14 = true → L 13 = true ∧ ∃ y, V 14 = .agg #[.int .i64 x0, .int .i64 y]
  v15 : L 15 = true → ∃ g y, V 15 = .slice (some ⟨g, 0, none⟩) 1 1 ∧ (L 16 = false → L 13 = true ∧ ElAt elL w (some ⟨g, 0, none⟩) [(x0, y)])
  v16 : L 16 = true → L 13 = true ∧ ∃ g vc y, V 16 = .slice (some ⟨g, 0, none⟩) (Ls.length + 1) vc ∧ (g ≠ gc ∧ bs ≤ g) ∧ ElAt elL w (some ⟨g, 0, none⟩) (Ls ++ [(x0, y)])
  v17 : L 17 = true → V 17 = .pointer (some ⟨gc, 1, none⟩)
  v18 : L 18 = true → L 16 = true ∧ ∃ g vc y, bs ≤ g ∧ TabCell w gc t8 (.slice (some ⟨g, 0, none⟩) (Ls.length + 1) vc) ∧ ElAt elL w (some ⟨g, 0, none⟩) (Ls ++ [(x0, y)])
  d12 : L 13 = true → L 12 = true
  d15 : L 16 = true → L 15 = true
  d16 : L 16 = true → L 1 = true
  d18 : L 18 = true → L 1 = true
section
variable {W0 : World} {D bs gc xb nb : Nat} {t8 x0 x1 T : Int} {U9 : Option Addr} {uc9 : Nat} {Ls : List Spd} {V : Nat → Value} {L : Nat → Bool} {w w' : World}
theorem R27.start (hD : ∃ R, DiceAt W0 D R) (hT : TabCell W0 gc t8 (.slice U9 Ls.length uc9)) (hO : ElOwn elL 74 W0 bs (.slice U9 Ls.length uc9) Ls) (V : Nat → Value) : R27 W0 D bs gc xb nb t8 x0 x1 T U9 uc9 Ls V (fun _ => false) W0.drew where
  kp := (Kep.refl _ _).drew
  dice := hD
  tab _ := hT
  own _ := hO
  v0 h := by cases h
  v1 h := by cases h
  v2 h := by cases h
  v3 h := by cases h
  v4 h := by cases h
  v5 h := by cases h
  v6 h := by cases h
  v7 h := by cases h
  v8 h := by cases h
  v9 h := by cases h
  v10 h := by cases h
  v11 h := by cases h
  v12 h := by cases h
  v13 h := by cases h
  v14 h := by cases h
  v15 h := by cases h
  v16 h := by cases h
  v17 h := by cases h
  v18 h := by cases h
  d12 h := by cases h
  d15 h := by cases h
  d16 h := by cases h
  d18 h := by cases h
/-- An operation ahead of append that keeps all but the dice. -/
theorem R27.move (h : R27 W0 D bs gc xb nb t8 x0 x1 T U9 uc9 Ls V L w) (hL : L 16 = false) (hk : Kep (fun b => b = D) w w') (hd : ∃ R, DiceAt w' D R) (hD : D < bs) (hgc : gc < W0.heap.size) (hbg : bs ≤ gc)
    (hx : ∀ g y, V 15 = .slice (some ⟨g, 0, none⟩) 1 1 → L 15 = true → ElAt elL w (some ⟨g, 0, none⟩) [(x0, y)] → ElAt elL w' (some ⟨g, 0, none⟩) [(x0, y)]) : R27 W0 D bs gc xb nb t8 x0 x1 T U9 uc9 Ls V L w' := { h with
  kp := h.kp.trans (hk.weak (fun b e => .inl e))
  dice := hd
  tab := fun e => (h.tab e).kep hk (by omega)
  own := fun e => own_kep (h.own e) hk (fun b eb => by have := (own_ge (h.own e) b eb).1; show ¬ b = D; omega)
  v12 := fun e => by
    obtain ⟨g, z, e1, e2, e3⟩ := h.v12 e
    exact ⟨g, z, e1, e2, fun e4 => (e3 e4).kep hk (fun a ha => by injection ha with ha; subst ha; show ¬ g = D; omega)⟩
  v15 := fun e => by
    obtain ⟨g, y, e1, e2⟩ := h.v15 e
    exact ⟨g, y, e1, fun e3 => ⟨(e2 e3).1, hx g y e1 e (e2 e3).2⟩⟩
  v16 := fun e => nf hL e
  v18 := fun e => nf hL (h.v18 e).1 }
theorem nf2 {b : Bool} {A : Prop} (h : b = true) (h2 : b = false) : A := nf h2 h
theorem R27.o16 (h : R27 W0 D bs gc xb nb t8 x0 x1 T U9 uc9 Ls V L w) (hL : L 16 = false) (h13 : L 13 = true) (hD : D < bs) (hgc : gc < W0.heap.size) (hU9 : ∀ k, (Value.slice U9 Ls.length uc9).ownBlock = some k → k ≠ gc) (h1 : L 1 = true) (h15 : L 15 = true) {g cap : Nat} {y : Int}
    (hown : ElOwn elL 74 w' bs (.slice (some ⟨g, 0, none⟩) (Ls.length + 1) cap) (Ls ++ [(x0, y)])) (hg : w.grownBy w' (Value.slice U9 Ls.length uc9).ownBlock) (hor : (Value.slice U9 Ls.length uc9).ownBlock = some g ∨ g = w.heap.size) :
    R27 W0 D bs gc xb nb t8 x0 x1 T U9 uc9 Ls (updV V 16 (.slice (some ⟨g, 0, none⟩) (Ls.length + 1) cap)) (upd L 16) w' := by
  have ho := h.own hL
  have hk : Kep (fun b => bs ≤ b) w w' := ⟨hg.os, hg.tape, hg.output, hg.size, fun b hb hx => hg.block b hb (fun e => hx (own_ge ho b e.symm).1)⟩
  obtain ⟨R, hR⟩ := h.dice
  obtain ⟨A, c, ev, hat, -, hA, -, -⟩ := hown.at_
  injection ev with ev1 ev2 ev3
  subst ev1
  have hbg := (hA _ rfl).2.2.1
  have hgl := h.kp.size
  have hgg : g ≠ gc := by
    rcases hor with q1 | q1
    · exact hU9 g q1
    · omega
  exact { h with
    kp := h.kp.trans (hk.weak (fun b e => .inr e))
    dice := ⟨R, hR.kep hk (fun b hb => by omega)⟩
    tab := fun e => (hg.block gc (by omega) (fun e => hU9 gc e.symm rfl)).trans (h.tab e)
    own := fun e => by cases e
    v12 := fun e => by
      obtain ⟨g, z, e1, e2, e3⟩ := h.v12 e
      exact ⟨g, z, e1, e2, fun e4 => nf e4 h13⟩
    v15 := fun e => by
      obtain ⟨g, y, e1, e2⟩ := h.v15 e
      exact ⟨g, y, e1, fun e3 => by cases e3⟩
    v16 := fun _ => ⟨h13, g, cap, y, rfl, ⟨hgg, hbg⟩, hat⟩
    v18 := fun e => nf hL (h.v18 e).1
    d15 := fun _ => h15
    d16 := fun _ => h1 }
theorem st_lines {w : World} {x : Nat} {tm : Int} {u : Value} (h : TabCell w x tm u) (U : Option Addr) (n c : Nat) : (Instr.storeAt 50 (.pointer (some ⟨x, 1, none⟩)) (.slice U n c)).run Try.prog w = .ok () (w.setCell ⟨x, 1, none⟩ (.slice U n c)) := by
  have h1 := h.c1
  have f1 := h.frozen 1
  go_simp
theorem ld_lines {w : World} {x : Nat} {tm : Int} {U : Option Addr} {n c : Nat} (h : TabCell w x tm (.slice U n c)) : (Instr.loadAt 50 (.pointer (some ⟨x, 1, none⟩))).run Try.prog w = .ok (.slice U n c) w := by
  have h1 := h.c1
  go_simp
theorem ld_int {w : World} {x j : Nat} {n : Int} (h : w.cell? ⟨x, j, none⟩ = some (.int .i64 n)) : (Instr.loadAt 3 (.pointer (some ⟨x, j, none⟩))).run Try.prog w = .ok (.int .i64 n) w := by
  go_simp
theorem fa_tab (w : World) (x : Nat) : (Instr.fieldAt 52 (.pointer (some ⟨x, 0, none⟩)) 1).run Try.prog w = .ok (.pointer (some ⟨x, 1, none⟩)) w := by
  go_simp
theorem fa_nz0 (w : World) (x : Nat) : (Instr.fieldAt 47 (.pointer (some ⟨x, 0, none⟩)) 0).run Try.prog w = .ok (.pointer (some ⟨x, 0, none⟩)) w := by
  go_simp
theorem ia_arr0 (w : World) (x : Nat) : (Instr.indexAt 67 (.pointer (some ⟨x, 0, none⟩)) (.int .i64 0)).run Try.prog w = .ok (.pointer (some ⟨x, 0, none⟩)) w := by
  go_simp
theorem ia_arr1 (w : World) (x : Nat) : (Instr.indexAt 67 (.pointer (some ⟨x, 0, none⟩)) (.int .i64 1)).run Try.prog w = .ok (.pointer (some ⟨x, 1, none⟩)) w := by
  go_simp
theorem add_int (w : World) (x y : Int) : (do Go.eqGuard .add 3 (.tmp 0) (.tmp 0) (.int .i64 x) (.int .i64 y); Go.binOp .add 3 (.int .i64 x) (.int .i64 y) : Sem Value).run Try.prog w = .ok (.int .i64 (IntKind.i64.wrap (x + y))) w := by
  go_simp
theorem bd_line (w : World) (x y : Int) : (Instr.build 74 #[(0, .int .i64 x), (1, .int .i64 y)]).run Try.prog w = .ok (.agg #[.int .i64 x, .int .i64 y]) w := by
  go_simp
theorem bs_line (w : World) (x y : Int) : (Instr.buildSlice 50 1 #[(0, .agg #[.int .i64 x, .int .i64 y])]).run Try.prog w = .ok (.slice (some ⟨w.heap.size, 0, none⟩) 1 1) (w.alloc (.cells #[.int .i64 x, .int .i64 y] 74)) := by
  go_simp
theorem bs_int4 (w : World) (x y z u : Int) : (Instr.buildSlice 27 4 #[(0, .int .i64 x), (1, .int .i64 y), (2, .int .i64 z), (3, .int .i64 u)]).run Try.prog w = .ok (.slice (some ⟨w.heap.size, 0, none⟩) 4 4) (w.alloc (.cells #[.int .i64 x, .int .i64 y, .int .i64 z, .int .i64 u] 3)) := by
  go_simp
theorem R27.o18 (h : R27 W0 D bs gc xb nb t8 x0 x1 T U9 uc9 Ls V L w) (hL : L 18 = false) (h16 : L 16 = true) (hD : D < bs) (hbg : bs ≤ gc) :
    ∃ w', (Instr.storeAt 50 (.pointer (some ⟨gc, 1, none⟩)) (V 16)).run Try.prog w = .ok () w' ∧ R27 W0 D bs gc xb nb t8 x0 x1 T U9 uc9 Ls (updV V 18 undef) (upd L 18) w' := by
  obtain ⟨h13, g, vc, y, e16, hg, hat⟩ := h.v16 h16
  have hT := h.tab hL
  refine ⟨_, by rw [e16]; exact st_lines hT _ _ _, ?_⟩
  have hk : Kep (fun b => b = gc) w (w.setCell ⟨gc, 1, none⟩ (.slice (some ⟨g, 0, none⟩) (Ls.length + 1) vc)) := (Kep.refl (fun b => b = gc) w).set _ _ (.inl rfl)
  have hat' := hat.kep hk (fun a ha => by injection ha with ha; subst ha; exact hg.1)
  exact { h with
    kp := h.kp.trans (hk.weak (fun b e => .inr (by omega)))
    dice := dice_set h.dice _ _ (show D < gc by omega)
    tab := fun e => by cases e
    own := fun e => nf2 h16 e
    v12 := fun e => by
      obtain ⟨g, z, e1, e2, e3⟩ := h.v12 e
      exact ⟨g, z, e1, e2, fun e4 => nf e4 h13⟩
    v15 := fun e => by
      obtain ⟨g, y, e1, e2⟩ := h.v15 e
      exact ⟨g, y, e1, fun e3 => nf e3 h16⟩
    v16 := fun _ => ⟨h13, g, vc, y, e16, hg, hat'⟩
    v18 := fun _ => ⟨h16, g, vc, y, hg.2, hT.set1 _, hat'⟩
    d18 := fun _ => h.d16 h16 }
end
end Go.Proofs.Ytmnkgfimdlhhiaa
namespace Go.Proofs.Ytmnkgfimdlhhiaa
open Go.RowKit

theorem enter_of (args : Array Value) (w : World) : (callFunc 17 args).run Try.prog w = .ok (.enter 17 args) w :=
  Go.MuLone.run_callFunc_enter Try.func17 (by kernel_rfl) rfl args w
theorem add_intE (w : World) (x y : Int) : (do Go.eqGuard .add 3 (.tmp 173) (.const (.int .i64 1)) (.int .i64 x) (.int .i64 y); Go.binOp .add 3 (.int .i64 x) (.int .i64 y) : Sem Value).run Try.prog w = .ok (.int .i64 (IntKind.i64.wrap (x + y))) w := by
  go_simp
/-- One of a literal's numbers. -/
theorem of_lit (D : Nat) (R : List Int) (L : List Int) (w : World) (h : DiceAt w D R) (h0 : 0 < L.length) (hl : L.length ≤ 1000) :
    Calls Try.prog 17 #[.pointer (some ⟨D, 0, none⟩), .slice (some ⟨w.heap.size, 0, none⟩) L.length L.length] (w.alloc (.cells (L.map (Value.int .i64)).toArray 3)) (fun e w' => ∃ y, e = .returned (.int .i64 y) ∧ (∃ R', DiceAt w' D R') ∧ Kep (fun b => b = D) w w') := by
  refine (of_any D R (some ⟨w.heap.size, 0, none⟩) L L.length _ (h.alloc _) (lit_ints w L) (fun b off e => by injection e with e; injection e with e1; have := h.lt; omega) h0 hl).mono ?_
  rintro e w' ⟨k, hk, rfl, hD', hg'⟩
  exact ⟨_, rfl, ⟨_, hD'⟩, (kep_alloc w _).grown hg' rfl⟩
theorem IntBlk.own {w : World} {g n : Nat} {cs : List Int} (h : IntBlk w g cs) (hn : cs.length = n) (hm : n ≤ 1000) : w.ownsRow g 3 1 (.slice (some ⟨g, 0, none⟩) n n) n (cs.map (Value.int .i64)) :=
  ⟨by simp [hn], .inr ⟨g, n, _, rfl, Nat.le_refl _, h, Nat.le_refl _, by simp only [maxLen]; omega, by simp [hn], List.take_of_length_le (by simp [hn])⟩⟩
theorem IntBlk.kep {X : Nat → Prop} {w w' : World} {g : Nat} {cs : List Int} (h : IntBlk w g cs) (hk : Kep X w w') (hX : ¬ X g) : IntBlk w' g cs := (hk.block g h.lt hX).trans h
theorem IntsAt.kepG {X : Nat → Prop} {w w' : World} {A : Option Addr} {L : List Int} (h : IntsAt w A L) (hk : Kep X w w') (hX : ∀ a, A = some a → 0 < L.length → ¬ X a.block) : IntsAt w' A L := fun k hkx => by
  obtain ⟨b, off, hA, hlt, hc⟩ := h k hkx
  exact ⟨b, off, hA, Nat.lt_of_lt_of_le hlt hk.size, (World.cell?_of_block (w := w) (hk.block b hlt (hX _ hA (by omega)))).trans hc⟩

set_option maxRecDepth 100000 in
set_option maxHeartbeats 60000000 in
theorem statisticMade_walk (A0 : Option Addr) (L0 : List Int) (c0 : Nat) (A1 : Option Addr) (L1 : List Int) (c1 : Nat) (x0 x1 : Int) (w : World) (hl0 : L0.length ≤ maxLen) (hI0 : IntsAt w A0 L0) (_ : ∀ n ∈ L0, -9223372036854775808 ≤ n ∧ n ≤ 9223372036854775807)
    (_ : L1.length ≤ maxLen) (hI1 : IntsAt w A1 L1) (_ : ∀ n ∈ L1, -9223372036854775808 ≤ n ∧ n ≤ 9223372036854775807) (_ : -9223372036854775808 ≤ x0 ∧ x0 ≤ 9223372036854775807) (_ : -9223372036854775808 ≤ x1 ∧ x1 ≤ 9223372036854775807) :
    Calls Try.prog 10 #[.slice A0 L0.length c0, .slice A1 L1.length c1, .agg #[.int .i64 x0, .int .i64 x1]] w (RetB (.bool true) w) := by
  have hL := fun w => light_any A0 L0.length c0 w
  by_cases hlight : (L0.length : Int) ≤ 500 ∧ (L1.length : Int) ≤ 80
  case neg =>
    by_cases h5 : (L0.length : Int) ≤ 500
    case neg =>
      rw [decide_eq_false h5] at hL
      have HLt := Lib.hid hL
      clear hL hlight h5
      go_enter Try.func10, Try.ntmps10
      go_wp2_with fail
      refine ret_pure (HLt.out _) ?_
      go_wp2_with fail
      refine ret_below (awake39 _) fun w1 hb1 => ?_
      go_wp2_with fail
      go_ret
      exact RetB.bool rfl ((below_alloc w _).trans (hb1.mono (by simp)))
    case pos =>
      rw [decide_eq_true h5] at hL
      have h8 : ¬ (L1.length : Int) ≤ 80 := fun h => hlight ⟨h5, h⟩
      have HLt := Lib.hid hL
      clear hL hlight h5
      go_enter Try.func10, Try.ntmps10
      go_wp2_with fail
      refine ret_pure (HLt.out _) ?_
      go_wp2_with fail
      refine ret_below (awake39 _) fun w1 hb1 => ?_
      go_wp2_with fail
      go_ret
      exact RetB.bool rfl ((below_alloc w _).trans (hb1.mono (by simp)))
  case pos =>
    rw [decide_eq_true hlight.1] at hL
    have h8 : (L1.length : Int) ≤ 80 := hlight.2
    have HLt := Lib.hid hL
    clear hL hlight
    go_enter Try.func10, Try.ntmps10
    go_wp2_with fail
    refine ret_pure (HLt.out _) ?_
    go_wp2_with fail
    obtain ⟨xb, hxb⟩ : ∃ xb, xb = w.heap.size := ⟨_, rfl⟩
    refine gen_calls fun W hW => ?_
    have hA : ArrCell W xb x0 x1 := by rw [hW]; exact ArrCell.new _ _ hxb
    have hbW : Below w.heap.size w W := by rw [hW]; exact below_alloc _ _
    have hWs : W.heap.size = xb + 1 := by rw [hW, hxb]; simp
    have hI0W := hI0.below hbW
    have hwx : w.heap.size ≤ xb := by omega
    rw [← hxb]
    have HI1 := Lib.hid hI1
    clear hW hxb hI0 hI1 HLt
    refine (roll_any A0 L0 c0 _ hl0 hI0W).mono ?_
    rintro e w1 ⟨D, rfl, hDs, hD, hb1⟩
    have hk1 : Kep (fun b => b = D) W w1 := (Kep.refl _ W).below hb1
    have hxD : xb < D := by omega
    have hwD : w.heap.size ≤ D := by omega
    have hD1 := hD.lt
    clear hI0W hl0 hWs
    go_wp2_with fail
    refine (pnoise_any D L0 _ hD).mono ?_
    rintro e w2 ⟨T, A, B, R2, rfl, hG, hD2, hg2⟩
    have hk2 := hk1.grown hg2 rfl
    go_wp2_with fail
    refine (budget_any D R2 _ hD2).mono ?_
    rintro e w3 ⟨P, Am, S, v, R3, tm0, rfl, hP, hAm, hM, htm0, hl, hown, hD3, hg3⟩
    have hk3 := hk2.grown hg3 rfl
    obtain ⟨Q, cq, rfl, -, -, -⟩ := hown.at_
    go_wp2_with fail
    refine (contents_any D R3 9 _ hD3 (by omega)).mono ?_
    rintro e w4 ⟨v4, C, R4, rfl, hown4, hdep, hlen, hD4, hg4⟩
    obtain ⟨U, uc, rfl, hU4, hUn, hUb, -, -⟩ := hown4.at_
    have hk4 := hk3.grown hg4 rfl
    have hs2 := hg2.size
    have hs3 := hg3.size
    have hs4 := hg4.size
    have hS4 : SpOwn w4 w2.heap.size (.slice Q S.length cq) S := own_kep hown (kep_grown hg4) (fun b eb => by have := (own_ge hown b eb).1; show ¬ b = D; omega)
    have HG := Lib.hid hG
    have HU4 := Lib.hid hU4
    have HUB := Lib.hid hUb
    have HS4 := Lib.hid hS4
    have HM := Lib.hid hM
    have HA1 := Lib.hid hA
    have HD4 := Lib.hid hD4
    have HK4 := Lib.hid hk4
    clear hk1 hk2 hk3 hk4 hg2 hg3 hg4 hown hown4 hdep hUb hUn hU4 hS4 hM hA hD hD2 hD3 hD4 hG hb1
    obtain ⟨nb, hnb⟩ : ∃ nb, nb = w4.heap.size := ⟨_, rfl⟩
    go_wp2_with fail
    refine gen_calls fun W4 hW4 => ?_
    have hN : NzCell W4 nb T A B := by rw [hW4]; exact ((NzCell.new (w := w4) T A B hnb).alloc _).alloc _
    have hX : BudCell W4 (nb + 1) P Am (.slice Q S.length cq) := by rw [hW4, hnb]; exact (BudCell.new (w := w4.alloc (.cells #[.int .i64 T, .int .i64 A, .int .i64 B] 47)) _ _ _ (by simp)).alloc _
    have hDs0 : IntsAt W4 (some ⟨nb + 1 + 1, 0, none⟩) [0, 1, 3] := by rw [hW4, hnb]; have := lit_ints ((w4.alloc (.cells #[.int .i64 T, .int .i64 A, .int .i64 B] 47)).alloc (.cells #[.int .i64 P, .int .i64 Am, .slice Q S.length cq] 24)) [0, 1, 3]; simpa using this
    have hk5 : Kep (fun b => b = D) w4 W4 := by rw [hW4]; exact (((Kep.refl _ w4).below (below_alloc _ _)).below (below_alloc _ _)).below (below_alloc _ _)
    have hDW4 : DiceAt W4 D R4 := by rw [hW4]; exact ((HD4.out.alloc _).alloc _).alloc _
    have hws : W4.heap.size = nb + 3 := by rw [hW4, hnb]; simp
    rw [← hnb]
    clear hW4
    refine (total_tot T A B _ HG.out).mono ?_
    rintro e w5 ⟨rfl, hb5⟩
    have hkW := (HK4.out.trans hk5).below hb5
    have HA5 := Lib.hid (HA1.out.kep hkW (by omega))
    have HN5 := Lib.hid (hN.below hb5)
    have HX5 := Lib.hid (hX.below hb5)
    have HI5 := Lib.hid (hDs0.below hb5)
    have HU5 := Lib.hid ((HU4.out.kep hk5 (fun a e => by have := (HUB.out a e).2.2; show ¬ a.block = D; omega)).below hb5)
    have HS5 := Lib.hid (SpOwn.below (own_kep HS4.out hk5 (fun b eb => by have := (own_ge HS4.out b eb).1; show ¬ b = D; omega)) hb5)
    have HD5 := Lib.hid (hDW4.below hb5)
    have hbw5 : Below w.heap.size w w5 := hkW.toBelow hbW (fun b hx => by omega)
    have hs5 : nb + 3 ≤ w5.heap.size := by have := hb5.size; omega
    have hDnb : D < nb := by have := HD4.out.lt; omega
    have hxnb : xb < nb := by omega
    have HUX := Lib.hid (show ∀ a, U = some a → D < a.block ∧ a.block < nb from fun a e => by have := (HUB.out a e).2.2; omega)
    have HSX := Lib.hid (show ∀ b, (Value.slice Q S.length cq).ownBlock = some b → D < b ∧ b < nb from fun b e => by have := own_ge HS4.out b e; omega)
    have htot : 1 ≤ totalW T A B ∧ totalW T A B ≤ 36028797018963968 := (WOK.of HG.out (show (0 : Int) ≤ 0 ∧ 0 ≤ T by have := HG.out.1; omega)).tot
    generalize htt : totalW T A B = tot at *
    obtain ⟨p1, p2⟩ := htot
    have ptn : tot ≠ 0 := by omega
    clear hN hX hDs0 hk5 hDW4 hkW HA1 HU4 HS4 HK4 HD4 HUB hbW hb5 htt hws hs2 hs3 hs4 hDs hnb hD1
    go_wp2_with fail
    have hq : ∀ z : Int, 0 ≤ z → z < 1000 → IntKind.i64.wrap (z.tmod tot) = z.tmod tot := fun z h0 h1 => by
      have := Int.tmod_lt_of_pos z (show 0 < tot by omega)
      have := Int.tmod_nonneg tot h0
      exact IntWalk.i64_in _ (by omega)
    have HQ := Lib.hid hq
    clear hq
    go_region_law (first
      | (refine step_nextE _ rfl (.tmp 50) (.const (.int .i64 1000)) 1000 rfl rfl rfl (by exact HD5.out) (by omega) (by omega) ?_; intro z1 u1 hz1 hd1 hg1; have hr1 := HQ.out (z1 : Int) (by omega) hz1)
      | (refine step_nextE _ rfl (.tmp 56) (.const (.int .i64 1000)) 1000 rfl rfl rfl (by exact hd1) (by omega) (by omega) ?_; intro z2 u2 hz2 hd2 hg2; have hr2 := HQ.out (z2 : Int) (by omega) hz2))
    go_wp2_with fail
    refine gen_calls fun W6 hW6 => ?_
    obtain ⟨gy, hgy⟩ : ∃ gy, gy = u2.heap.size := ⟨_, rfl⟩
    have hY6 : IntBlk W6 gy [((z1 : Int) % tot), wrap64 (tot - 1 - ((z2 : Int) % tot)), 0] := by rw [hW6, hgy]; exact heap_alloc_new u2 _
    have hk6 : Kep (fun b => b = D) w5 W6 := by rw [hW6]; exact ((show Kep (fun b => b = D) w5 u1 from (kep_grown (grown_undrewE hg1))).grown hg2 rfl).below (below_alloc _ _)
    have hD6 : DiceAt W6 D R4.tail.tail := by rw [hW6]; exact hd2.alloc _
    have hgy0 : nb + 3 ≤ gy := by have h1 := hg1.size; have h2 := hg2.size; have h3 : w5.drew.heap.size = w5.heap.size := rfl; omega
    rw [← hgy]
    clear hW6 hgy hd1 hd2 hg1 hg2 hr1 hr2 HQ
    refine (next_any D _ 8 _ hD6 (by omega)).mono ?_
    rintro e w7 ⟨rfl, hD7, hg7⟩
    obtain ⟨y1, y2⟩ := nextV_range R4.tail.tail 8 (by omega)
    generalize nextV R4.tail.tail 8 = yy at *
    generalize R4.tail.tail.tail = R7 at *
    have hk7 := hk6.grown hg7 rfl
    have HA7 := Lib.hid (HA5.out.kep hk7 (by omega))
    have HN7 := Lib.hid (HN5.out.kep hk7 (by omega))
    have HX7 := Lib.hid (HX5.out.kep hk7 (by omega))
    have HI7 := Lib.hid (HI5.out.kep hk7 (fun a e => by injection e with e; subst e; show ¬ nb + 1 + 1 = D; omega))
    have HU7 := Lib.hid (HU5.out.kep hk7 (fun a e => by have := HUX.out a e; omega))
    have HS7 := Lib.hid (show SpOwn w7 w2.heap.size (.slice Q S.length cq) S from own_kep HS5.out hk7 (fun b eb => by have := HSX.out b eb; omega))
    have HD7 := Lib.hid hD7
    have HY7 := Lib.hid (hY6.kep (kep_grown hg7) (by omega))
    have hbw7 := hk7.toBelow hbw5 (fun b hx => by omega)
    generalize wrap64 (tot - 1 - ((z2 : Int) % tot)) = uu1 at *
    generalize (z1 : Int) % tot = uu0 at *
    clear HA5 HN5 HX5 HI5 HU5 HS5 HD5 hY6 hk6 hD6 hg7 hD7 hk7
    go_upto_block 0 with fail
    go_cut [11, 13, 14] (fun s11 s13 s14 wx => ∃ (A' : Int) (X : Option Addr) (ds : List Int) (cx : Nat) (Y : Option Addr) (us : List Int) (cy : Nat) (tm : Int), s11 = .slice X ds.length cx ∧ ds.length ≤ 100 ∧ IntsAt wx X ds ∧ (∀ a, X = some a → 0 < ds.length → a.block ≠ D) ∧ s13 = .slice Y us.length cy ∧ us.length ≤ 4 ∧ IntsAt wx Y us ∧ s14 = .int .i64 tm ∧ NzCell wx nb T A' B ∧ (∃ R', DiceAt wx D R') ∧ Kep (fun b => b = D ∨ b = nb ∨ b = gy) w7 wx)
    case first =>
      have n1 := HN7.out.c1
      have n2 := HN7.out.c2
      have a0 := HA7.out.c0
      have a1 := HA7.out.c1
      have hN7l := HN7.out.lt
      have hA7l := HA7.out.lt
      have hY7l := HY7.out.lt
      have hI7 : ∀ (X : Nat → Prop) (wx : World), Kep X w7 wx → ¬ X (nb + 1 + 1) → IntsAt wx (some ⟨nb + 1 + 1, 0, none⟩) [0, 1, 3] := fun X wx hk hX => HI7.out.kep hk (fun a e => by injection e with e; subst e; exact hX)
      have HI7' := Lib.hid hI7
      clear hI7
      by_cases q0 : yy = 0
      · have b0 : (yy == 0) = true := by simp [q0]
        clear q0
        go_wp2_with fail
        refine (of_lit D R7 [0, B, x0] w7 HD7.out (by simp) (by simp)).mono ?_
        rintro e w8 ⟨y, rfl, hd8, hk8⟩
        have hN8 := HN7.out.kep hk8 (by omega)
        have m1 := hN8.c1
        have m2 := hN8.frozen 1
        have HF := Lib.hid (hN8.set1 y)
        have HK := Lib.hid ((hk8.weak (Y := fun b => b = D ∨ b = nb) (fun b hb => .inl hb)).set ⟨nb, 1, none⟩ (.int .i64 y) (.inl (.inr rfl)))
        have HD := Lib.hid (dice_set hd8 ⟨nb, 1, none⟩ (.int .i64 y) hDnb)
        clear hN8 hd8 hk8
        go_wp2_with fail
        go_meet
        exact ⟨y, _, [0, 1, 3], _, _, [uu0, uu1, 0], _, _, rfl, by simp, HI7'.out _ _ HK.out (by omega), (fun a e _ => by injection e with e; subst e; show ¬ nb + 1 + 1 = D; omega), rfl, by simp, (HY7.out.kep HK.out (by omega)).ints, rfl, HF.out, HD.out, HK.out.weak (fun b hb => by omega)⟩
      by_cases q1 : yy = 1
      · have b0 : (yy == 0) = false := by simp [q0]
        have b1 : (yy == 1) = true := by simp [q1]
        clear q0 q1
        go_wp2_with fail
        go_meet
        exact ⟨A, _, L1, _, _, [uu0, uu1, 0], _, _, rfl, by omega, HI1.out.below hbw7, (fun a e h0 => by obtain ⟨b, off, e2, h2, -⟩ := HI1.out 0 h0; rw [e2] at e; injection e with e; subst e; show ¬ b = D; omega), rfl, by simp, HY7.out.ints, rfl, HN7.out, ⟨_, HD7.out⟩, Kep.refl _ _⟩
      by_cases q2 : yy = 2
      · have b0 : (yy == 0) = false := by simp [q0]
        have b1 : (yy == 1) = false := by simp [q1]
        have b2 : (yy == 2) = true := by simp [q2]
        clear q0 q1 q2
        go_wp2_with (at_builtin; refine app_one rfl (.tmp 79) (.tmp 80) 27 rfl (base := gy) Try.underlying27 info_int rfl (v := .slice (some ⟨gy, 0, none⟩) 3 3) (n := 3) (xs := [uu0, uu1, 0].map (Value.int .i64)) (u := .int .i64 0) rfl (HY7.out.own rfl (by omega)) rfl rfl (by decide) (by omega) (by omega) ?_; intro v8 w8 hown8 hg8 hb8; have HW := Lib.hid hown8; have HK := Lib.hid (show Kep (fun b => b = gy) w7 w8 from (Kep.refl _ w7).grown hg8 rfl); clear hown8 hg8 hb8)
        go_meet
        have hown8 := HW.out
        obtain ⟨A', c', rfl, hI⟩ := IntsAt.of_own (L := [uu0, uu1, 0, 0]) hown8 rfl
        exact ⟨A, _, [0, 1, 3], _, _, [uu0, uu1, 0, 0], _, _, rfl, by simp, HI7'.out _ _ HK.out (by omega), (fun a e _ => by injection e with e; subst e; show ¬ nb + 1 + 1 = D; omega), rfl, by simp, hI, rfl, HN7.out.kep HK.out (by omega), ⟨_, HD7.out.kep HK.out (fun b hb => by omega)⟩, HK.out.weak (fun b hb => by omega)⟩
      by_cases q3 : yy = 3
      · have b0 : (yy == 0) = false := by simp [q0]
        have b1 : (yy == 1) = false := by simp [q1]
        have b2 : (yy == 2) = false := by simp [q2]
        have b3 : (yy == 3) = true := by simp [q3]
        clear q0 q1 q2 q3
        go_wp2_with fail
        refine (of_lit D R7 [-1, tot, x0] w7 HD7.out (by simp) (by simp)).mono ?_
        rintro e w8 ⟨y, rfl, hd8, hk8⟩
        have hY8 := HY7.out.kep hk8 (by omega)
        have m1 := hY8.cell 0 (by simp)
        have m2 := hY8.frozen 0
        have HF := Lib.hid (hY8.set_ 0 y)
        have HK := Lib.hid ((hk8.weak (Y := fun b => b = D ∨ b = gy) (fun b hb => .inl hb)).set ⟨gy, 0, none⟩ (.int .i64 y) (.inl (.inr rfl)))
        have HD := Lib.hid (dice_set hd8 ⟨gy, 0, none⟩ (.int .i64 y) (show D < gy by omega))
        clear hY8 hd8 hk8
        go_wp2_with fail
        go_meet
        exact ⟨A, _, [0, 1, 3], _, _, [y, uu1, 0], _, _, rfl, by simp, HI7'.out _ _ HK.out (by omega), (fun a e _ => by injection e with e; subst e; show ¬ nb + 1 + 1 = D; omega), rfl, by simp, HF.out.ints, rfl, HN7.out.kep HK.out (by omega), HD.out, HK.out.weak (fun b hb => by omega)⟩
      by_cases q4 : yy = 4
      · have b0 : (yy == 0) = false := by simp [q0]
        have b1 : (yy == 1) = false := by simp [q1]
        have b2 : (yy == 2) = false := by simp [q2]
        have b3 : (yy == 3) = false := by simp [q3]
        have b4 : (yy == 4) = true := by simp [q4]
        clear q0 q1 q2 q3 q4
        go_wp2_with fail
        refine (of_lit D R7 [0, -1, 1099511627776, 1099511627777, x1] w7 HD7.out (by simp) (by simp)).mono ?_
        rintro e w8 ⟨y, rfl, hd8, hk8⟩
        have HK := Lib.hid hk8
        have HD := Lib.hid hd8
        clear hd8 hk8
        go_wp2_with fail
        go_meet
        exact ⟨A, _, [0, 1, 3], _, _, [uu0, uu1, 0], _, _, rfl, by simp, HI7'.out _ _ HK.out (by omega), (fun a e _ => by injection e with e; subst e; show ¬ nb + 1 + 1 = D; omega), rfl, by simp, (HY7.out.kep HK.out (by omega)).ints, rfl, HN7.out.kep HK.out (by omega), HD.out, HK.out.weak (fun b hb => .inl hb)⟩
      by_cases q5 : yy = 5
      · have b0 : (yy == 0) = false := by simp [q0]
        have b1 : (yy == 1) = false := by simp [q1]
        have b2 : (yy == 2) = false := by simp [q2]
        have b3 : (yy == 3) = false := by simp [q3]
        have b4 : (yy == 4) = false := by simp [q4]
        have b5 : (yy == 5) = true := by simp [q5]
        clear q0 q1 q2 q3 q4 q5
        go_wp2_with fail
        refine (of_lit D R7 [0, -1] w7 HD7.out (by simp) (by simp)).mono ?_
        rintro e w8 ⟨y, rfl, ⟨R8, hd8⟩, hk8⟩
        have HK := Lib.hid hk8
        have HD := Lib.hid hd8
        have hs8 := hk8.size
        clear hd8 hk8
        go_wp2_with fail
        refine (of_lit D R8 [63, 64, 1] w8 HD.out (by simp) (by simp)).mono ?_
        rintro e w9 ⟨y2, rfl, hd9, hk9⟩
        have HK9 := Lib.hid ((HK.out.trans hk9).below (below_alloc w9 (.cells #[.int .i64 y, .int .i64 1, .int .i64 y2] 3)))
        have HD9 := Lib.hid (dice_alloc hd9 (.cells #[.int .i64 y, .int .i64 1, .int .i64 y2] 3))
        have HL9 := Lib.hid (lit_ints w9 [y, 1, y2])
        have hk9s := hk9.size
        clear hd9 hk9
        go_wp2_with fail
        go_meet
        exact ⟨A, _, [y, 1, y2], _, _, [uu0, uu1, 0], _, _, rfl, by simp, HL9.out, (fun a e _ => by injection e with e; subst e; have h1 := HK.out.size; have h2 := HD7.out.lt; have h3 := hk9s; show ¬ w9.heap.size = D; omega), rfl, by simp, (HY7.out.kep HK9.out (by omega)).ints, rfl, HN7.out.kep HK9.out (by omega), HD9.out, HK9.out.weak (fun b hb => .inl hb)⟩
      have b0 : (yy == 0) = false := by simp [q0]
      have b1 : (yy == 1) = false := by simp [q1]
      have b2 : (yy == 2) = false := by simp [q2]
      have b3 : (yy == 3) = false := by simp [q3]
      have b4 : (yy == 4) = false := by simp [q4]
      have b5 : (yy == 5) = false := by simp [q5]
      clear q0 q1 q2 q3 q4 q5
      go_wp2_with fail
      go_meet
      exact ⟨A, _, [0, 1, 3], _, _, [uu0, uu1, 0], _, _, rfl, by simp, HI7.out, (fun a e _ => by injection e with e; subst e; show ¬ nb + 1 + 1 = D; omega), rfl, by simp, HY7.out.ints, rfl, HN7.out, ⟨_, HD7.out⟩, Kep.refl _ _⟩
    case rest =>
      obtain ⟨A', X, ds, cx, Y, us, cy, tm, rfl, hdl, hXi, hXD, rfl, hul, hYi, rfl, hNc, ⟨Rc, hDc⟩, hkc⟩ := hcut
      have hAc := HA7.out.kep hkc (by omega)
      have hXc := HX7.out.kep hkc (by omega)
      have hUc : ElAt elC wc U C := HU7.out.kep hkc (fun a e => by have := HUX.out a e; omega)
      have hSc : SpOwn wc w2.heap.size (.slice Q S.length cq) S := own_kep HS7.out hkc (fun b eb => by have := HSX.out b eb; omega)
      have hbc := hkc.toBelow hbw7 (fun b hx => by omega)
      obtain ⟨Q1, cq1, ev, hSA, -⟩ := hSc.at_
      injection ev with ev1 ev2 ev3
      subst ev1; subst ev3
      have hsp := hSc.spotE
      have hsn := hSc.nilcapE
      have hpub := publish_any T A' B P Am Q S cq tm U C uc X ds cx Y us cy wc hSA hsp hsn (by omega) hUc (by omega) hXi (by omega) hYi (by omega)
      have href : ∀ W, Below wc.heap.size wc W → Calls Try.prog 31 #[nz T A' B, .agg #[.int .i64 P, .int .i64 Am, .slice Q S.length cq], .int .i64 tm, .slice U C.length uc, .slice X ds.length cx, .slice Y us.length cy] W (PubQ T A' B P Am S tm C ds us W) := fun W hW =>
        refPublish_any T A' B P Am Q S cq tm U C uc X ds cx Y us cy W (hSA.below hW) hsp hsn (by omega) (hUc.below hW) (by omega) (hXi.below hW) (by omega) (hYi.below hW) (by omega)
      unfold PubQ at hpub href
      have hll : (pbL T A' B P Am S tm C ds us).length ≤ 100 := by
        unfold pbL; split
        · rw [lnK_len]; exact hdl
        · simp
      have hls : (pbS T A' B P Am S tm ds us).length ≤ 100 := by
        unfold pbS; split
        · simp; omega
        · omega
      generalize pbT T A' B P Am S tm ds us = t8 at *
      generalize pbL T A' B P Am S tm C ds us = Ls at *
      generalize pbS T A' B P Am S tm ds us = S8 at *
      generalize pbE T A' B P Am S tm ds us = E8 at *
      have HUX2 := Lib.hid (show ∀ a, U = some a → a.block ≠ D ∧ a.block < nb from fun a e => by have := HUX.out a e; omega)
      have HPub := Lib.hid hpub
      have HRef := Lib.hid href
      have HXi := Lib.hid hXi
      have HXi0 := Lib.hid hXi
      have HXD := Lib.hid hXD
      have HYi := Lib.hid hYi
      have HUc := Lib.hid hUc
      have HDc := Lib.hid hDc
      have n0 := hNc.c0
      have n1 := hNc.c1
      have n2 := hNc.c2
      have ln := hNc.lt
      have b0 := hXc.c0
      have b1 := hXc.c1
      have b2 := hXc.c2
      have lb := blk_lt hXc
      have HNc := Lib.hid hNc
      have HXc := Lib.hid hXc
      have HAc := Lib.hid hAc
      clear hpub href hXi hXD hYi hUc hSc hSA hDc hsp hsn hkc hNc hXc hAc HA7 HN7 HX7 HI7 HU7 HS7 HD7 HY7 hbw7 HUX HSX HM y1 y2 hbw5
      go_wp2_with fail
      refine HPub.out.mono ?_
      intro e w8 hr
      obtain ⟨U8, uc8, Q8, cq8, rfl, ho1, -, hL8, hS8, hb8⟩ := hr.open_
      obtain ⟨_, _, ev, -, -, hA8, -, -⟩ := ho1.at_
      injection ev with ev1 ev2 ev3
      subst ev1; subst ev3
      have hDcl := HDc.out.lt
      have HA8 := Lib.hid (show ∀ a, U8 = some a → a.block ≠ D ∧ a.block < w8.heap.size from fun a e => by have := hA8 a e; omega)
      clear ho1 ev2 hA8
      have hN8 := HNc.out.below hb8
      have hX8 := HXc.out.below hb8
      have hs8 := hb8.size
      have HL8 := Lib.hid hL8
      have HS8 := Lib.hid hS8
      clear n0 n1 n2 ln b0 b1 b2 lb hL8 hS8 hr HPub
      have n0 := hN8.c0
      have n1 := hN8.c1
      have n2 := hN8.c2
      have ln := hN8.lt
      have b0 := hX8.c0
      have b1 := hX8.c1
      have b2 := hX8.c2
      have lb := blk_lt hX8
      have HN8 := Lib.hid hN8
      have HX8 := Lib.hid hX8
      clear hN8 hX8
      go_wp2_with fail
      refine gen_calls fun W9 hW9 => ?_
      obtain ⟨ga, hga⟩ : ∃ ga, ga = w8.heap.size := ⟨_, rfl⟩
      have hT9 : TabCell W9 ga t8 (.slice U8 Ls.length uc8) := by rw [hW9, hga]; exact (TabCell.new (w := w8) _ _ rfl).below (below_alloc _ _)
      have hY9 : BudCell W9 (ga + 1) P Am (.slice Q8 S8.length cq8) := by rw [hW9, hga]; exact BudCell.new _ _ _ (by simp)
      have hb9 : Below w8.heap.size w8 W9 := by rw [hW9]; exact (below_alloc _ _).trans ((below_alloc _ _).mono (by simp))
      have hs9 : ga + 2 ≤ W9.heap.size := by rw [hW9, hga]; simp
      rw [← hga]
      have hga8 : wc.heap.size ≤ ga := by omega
      have hnga : nb < ga := by omega
      have HAX := Lib.hid (show ∀ a, U8 = some a → a.block ≠ D ∧ a.block < ga from fun a e => by rw [hga]; exact HA8.out a e)
      clear HA8
      clear hga hW9 n0 n1 n2 ln b0 b1 b2 lb
      refine (HRef.out W9 (hb8.trans (hb9.mono hs8))).mono ?_
      intro e w10 hr
      obtain ⟨U9, uc9, Q9, cq9, rfl, hlo, -, hL9, hS9, hb10⟩ := hr.open_
      obtain ⟨bs, hbs⟩ : ∃ bs, bs = W9.heap.size := ⟨_, rfl⟩
      rw [← hbs] at hlo
      have hbs9 : ga + 2 ≤ bs ∧ bs ≤ w10.heap.size := by have := hb10.size; omega
      clear hbs
      have hb810 := hb9.trans (hb10.mono hb9.size)
      have HT10 := Lib.hid (hT9.below hb10)
      have HY10 := Lib.hid (hY9.below hb10)
      have HL10 := Lib.hid hL9
      have HO10 := Lib.hid hlo
      have HS10 := Lib.hid hS9
      have HL8 := Lib.hid (HL8.out.below hb810)
      have HS8 := Lib.hid (HS8.out.below hb810)
      have hbc10 := hb8.trans (hb810.mono hs8)
      have hs10 := hb10.size
      clear hr hL9 hS9 hT9 hY9 HRef hlo hb9 hb810
      go_wp2_with fail
      refine gen_world fun W11 hW11 => ?_
      obtain ⟨gc, hgc⟩ : ∃ gc, gc = w10.heap.size := ⟨_, rfl⟩
      have hT12 : TabCell W11 gc t8 (.slice U9 Ls.length uc9) := by rw [hW11, hgc]; exact (TabCell.new (w := w10) _ _ rfl).below (below_alloc _ _)
      have hY12 : BudCell W11 (gc + 1) P Am (.slice Q9 S8.length cq9) := by rw [hW11, hgc]; exact BudCell.new _ _ _ (by simp)
      have hb11 : Below w10.heap.size w10 W11 := by rw [hW11]; exact (below_alloc _ _).trans ((below_alloc _ _).mono (by simp))
      rw [← hgc]
      have hgc10 : bs ≤ gc := by omega
      have HU9X := Lib.hid (show ∀ k, (Value.slice U9 Ls.length uc9).ownBlock = some k → k ≠ gc from fun k e => by have := (own_ge HO10.out k e).2; omega)
      clear hgc hW11
      have hbc11 := hbc10.trans (hb11.mono hbc10.size)
      have hT11 := HT10.out.below hb11
      have hY11 := HY10.out.below hb11
      have hA11 := HAc.out.below hbc11
      have HU11 := Lib.hid (HUc.out.below hbc11)
      have HL11 := Lib.hid (HL8.out.below hb11)
      have HM11 := Lib.hid (HL10.out.below hb11)
      have HS11 := Lib.hid (HS8.out.below hb11)
      have HR11 := Lib.hid (HS10.out.below hb11)
      have HO11 := Lib.hid (HO10.out.below hb11)
      have HN11 := Lib.hid (HNc.out.below hbc11)
      have HX11 := Lib.hid (HXi.out.below hbc11)
      have HD11 := Lib.hid (HDc.out.below hbc11)
      have hbw11 := hbc.trans (hbc11.mono hbc.size)
      have t0 := hT11.c0
      have t1 := hT11.c1
      have tl := hT11.lt
      have v0 := hT12.c0
      have v1 := hT12.c1
      have vl := hT12.lt
      have y0 := hY11.c0
      have y1 := hY11.c1
      have y2 := hY11.c2
      have yl := blk_lt hY11
      have r0 := hY12.c0
      have r1 := hY12.c1
      have r2 := hY12.c2
      have rl := blk_lt hY12
      have a0 := hA11.c0
      have al := hA11.lt
      have HT11 := Lib.hid hT11
      have HT12 := Lib.hid hT12
      have HA11 := Lib.hid hA11
      have n1 : (E8 != E8) = false := by simp
      have n2 : (cntD x0 C != cntD x0 C) = false := by simp
      have n3 : (cntD 1 C != cntD 1 C) = false := by simp
      have hsm : ∀ W, Below W11.heap.size W11 W → Calls Try.prog 32 #[.agg #[.int .i64 t8, .slice U8 Ls.length uc8], .agg #[.int .i64 t8, .slice U9 Ls.length uc9]] W (RetB (.bool true) W) := fun W hW => by
        have := refSameT_any U8 U9 Ls Ls uc8 uc9 t8 t8 W (HL11.out.below hW) (HM11.out.below hW) (by omega) (by omega)
        rwa [show eqT t8 t8 Ls Ls = true by simp [eqT, eqLs]] at this
      have HSM := Lib.hid hsm
      have hbs := hbc11.size
      clear hsm hT11 hT12 hA11 hY11 hY12 HT10 HY10 HL10 HO10 HS10 HL8 HS8 HAc HUc HNc HXi HDc HYi HX8 HN8 HXc hb8 hb10 hbc10 hb11 hbc11 hbc hs8 hs9 hs10
      refine wp_region_grew (by kernel_rfl) (by kernel_rfl) ?_
      repeat (go_big_quiet_step ((first
        | (go_at_call 32; exact grew_of (HSM.out _ (grewW.below _ _)))
        | (go_at_call 33; exact grew_of (refSame_true P Am Q8 Q9 S8 cq8 cq9 _ (HS11.out.below (grewW.below _ _)) (HR11.out.below (grewW.below _ _)) (by omega)))
        | (go_at_call 28; exact grew_of (count_any U C uc _ _ (HU11.out.below (grewW.below _ _)) (by omega)))
        | (go_at_call 34; exact grew_of (refCount_any U C uc _ _ (HU11.out.below (grewW.below _ _)) (by omega))))))
      refine wpQuiet_nil ?_
      intro w12 hb12
      have hb11s := hb12.size
      have HTa := Lib.hid (HT11.out.below hb12)
      have HTc := Lib.hid (HT12.out.below hb12)
      have HA12 := Lib.hid (HA11.out.below hb12)
      have HU12 := Lib.hid (HU11.out.below hb12)
      have HL12 := Lib.hid (HL11.out.below hb12)
      have HO12 := Lib.hid (HO11.out.below hb12)
      have HM12 := Lib.hid (HM11.out.below hb12)
      have HN12 := Lib.hid (HN11.out.below hb12)
      have HX12 := Lib.hid (HX11.out.below hb12)
      have HD12 := Lib.hid (HD11.out.below hb12)
      have hbw12 := hbw11.trans (hb12.mono hbw11.size)
      have hgl12 := HTc.out.lt
      clear t0 t1 tl v0 v1 vl y0 y1 y2 yl r0 r1 r2 rl a0 al n1 n2 n3 HT11 HT12 HA11 HU11 HL11 HM11 HS11 HR11 HSM HO11 HN11 HX11 HD11 hbw11 hb12 hbs hb11s
      go_wp2_with fail
      refine (one_any D Rc 5 w12 HD12.out (by omega)).mono ?_
      rintro e w13 ⟨q, rfl, hD13, hg13⟩
      have hk13 : Kep (fun b => b = D) w12 w13 := kep_grown hg13
      have hDga : D < ga := by omega
      have HTa := Lib.hid (HTa.out.kep hk13 (by omega))
      have HTc := Lib.hid (HTc.out.kep hk13 (by omega))
      have HA13 := Lib.hid (HA12.out.kep hk13 (by omega))
      have HU13 := Lib.hid (show ElAt elC w13 U C from HU12.out.kep hk13 (fun a e => (HUX2.out a e).1))
      have HL13 := Lib.hid (HL12.out.kep hk13 (fun a e => (HAX.out a e).1))
      have HO13 := Lib.hid (show ElOwn elL 74 w13 bs (.slice U9 Ls.length uc9) Ls from own_kep HO12.out hk13 (fun b eb => by have := (own_ge HO12.out b eb).1; show ¬ b = D; omega))
      have HN13 := Lib.hid (HN12.out.kep hk13 (by omega))
      have HX13 := Lib.hid (HX12.out.kepG hk13 (fun a e h0 => HXD.out a e h0))
      have HD13 := Lib.hid hD13
      have hbw13 := hk13.toBelow hbw12 (fun b hx => by omega)
      have hs13 := hk13.size
      clear HA12 HU12 HL12 HO12 HM12 HN12 HX12 HD12 hbw12 hk13 hg13 hD13
      go_upto_if 164 with fail
      go_cut [] (fun wx => ∃ (M : List Spd) (V : Option Addr) (vc : Nat), TabCell wx gc t8 (.slice V M.length vc) ∧ ElAt elL wx V M ∧ (∀ a, V = some a → bs ≤ a.block) ∧ M.length ≤ 101 ∧ (∃ R', DiceAt wx D R') ∧ Kep (fun b => b = D ∨ bs ≤ b) w13 wx)
      case first =>
        cases q
        · go_wp2_with fail
          go_meet
          exact ⟨Ls, U9, uc9, HTc.out, (by obtain ⟨_, _, ev, h, -⟩ := HO13.out.at_; injection ev with ev1; rw [ev1]; exact h), (by obtain ⟨_, _, ev, -, -, h, -⟩ := HO13.out.at_; injection ev with ev1; intro a e; rw [ev1] at e; exact (h a e).2.2.1), by omega, ⟨_, HD13.out⟩, Kep.refl _ _⟩
        · go_wp2_with fail
          have hnl13 := HN13.out.lt
          have hbsz : bs ≤ w13.heap.size := by omega
          have hgcl : gc < w13.heap.size := by omega
          refine wp_region_J2 (R27 w13 D bs gc xb nb t8 x0 x1 T U9 uc9 Ls) (by kernel_rfl) (by kernel_rfl) (by kernel_rfl) ?_ ?_ ?_
          case refine_1 => exact fun V => R27.start ⟨_, HD13.out⟩ HTc.out HO13.out V
          case refine_2 =>
            have j1 : D < bs := by omega
            have j2 : xb < bs := by omega
            have j3 : nb < bs := by omega
            have j4 : xb < D := hxD
            have j5 : D < nb := hDnb
            have j6 : Ls.length ≤ 100 := hll
            have j7 : bs ≤ gc := hgc10
            clear HI1 HG hs5 p1 p2 ptn hz1 hz2 hgy0 hP hAm htm0 hl hlen hdl hul hls HUX2 HXD HAX HL8 HS8 hga8 hnga hbs9 hgc10 hgl12 hDcl hwx hwD hxD hDnb hxnb HTa HU13 HL13 HX13 hs13 hbw13 h8
            refine JSteps.cons (fun V Ld a w hLi hpre hR hI K hK => ?_) ?_
            ·
              have e := (hR.old 18 (by kernel_rfl)).trans (show _ = Value.pointer (some ⟨gc, 0, none⟩) from rfl)
              exact J_fieldAddr rfl _ (.tmp 18) 1 rfl (by rw [e]; exact fa_tab w gc) (hK _ _ { hI with v0 := fun _ => rfl })
            refine JSteps.cons (fun V Ld a w hLi hpre hR hI K hK => ?_) ?_
            ·
              have p0 : Ld 0 = true := hpre 0 (List.mem_of_elem_eq_true (by kernel_rfl))
              have f0 := (hR.ev 0 rfl rfl p0).trans (hI.v0 p0)
              have h18 : Ld 18 = false := by
                cases h : Ld 18 with
                | false => rfl
                | true => exact nf hLi (hI.d18 h)
              exact J_load rfl _ (.tmp 165) rfl (by rw [f0]; exact ld_lines (hI.tab h18)) (hK _ _ { hI with v1 := fun _ => rfl, d16 := fun _ => rfl, d18 := fun _ => rfl })
            refine JSteps.cons (fun V Ld a w hLi hpre hR hI K hK => ?_) ?_
            ·
              have e := (hR.old 5 (by kernel_rfl)).trans (show _ = Value.pointer (some ⟨xb, 0, none⟩) from rfl)
              exact J_indexAddr rfl _ (.tmp 5) (.const (.int .i64 0)) rfl (by rw [e]; exact ia_arr0 w xb) (hK _ _ { hI with v2 := fun _ => rfl })
            refine JSteps.cons (fun V Ld a w hLi hpre hR hI K hK => ?_) ?_
            ·
              have p2 : Ld 2 = true := hpre 2 (List.mem_of_elem_eq_true (by kernel_rfl))
              have f2 := (hR.ev 2 rfl rfl p2).trans (hI.v2 p2)
              exact J_load rfl _ (.tmp 167) rfl (by rw [f2]; exact ld_int (HA13.out.kep hI.kp (by omega)).c0) (hK _ _ { hI with v3 := fun _ => rfl })
            refine JSteps.cons (fun V Ld a w hLi hpre hR hI K hK => ?_) ?_
            ·
              have e := (hR.old 7 (by kernel_rfl)).trans (show _ = Value.pointer (some ⟨D, 0, none⟩) from rfl)
              exact J_move rfl (.tmp 7) rfl (hK _ _ { hI with v4 := fun _ => e })
            refine JSteps.cons (fun V Ld a w hLi hpre hR hI K hK => ?_) ?_
            ·
              have e := (hR.old 8 (by kernel_rfl)).trans (show _ = Value.pointer (some ⟨nb, 0, none⟩) from rfl)
              exact J_fieldAddr rfl _ (.tmp 8) 0 rfl (by rw [e]; exact fa_nz0 w nb) (hK _ _ { hI with v5 := fun _ => rfl })
            refine JSteps.cons (fun V Ld a w hLi hpre hR hI K hK => ?_) ?_
            ·
              have p5 : Ld 5 = true := hpre 5 (List.mem_of_elem_eq_true (by kernel_rfl))
              have f5 := (hR.ev 5 rfl rfl p5).trans (hI.v5 p5)
              exact J_load rfl _ (.tmp 170) rfl (by rw [f5]; exact ld_int (HN13.out.kep hI.kp (by omega)).c0) (hK _ _ { hI with v6 := fun _ => rfl })
            refine JSteps.cons (fun V Ld a w hLi hpre hR hI K hK => ?_) ?_
            ·
              have e := (hR.old 8 (by kernel_rfl)).trans (show _ = Value.pointer (some ⟨nb, 0, none⟩) from rfl)
              exact J_fieldAddr rfl _ (.tmp 8) 0 rfl (by rw [e]; exact fa_nz0 w nb) (hK _ _ { hI with v7 := fun _ => rfl })
            refine JSteps.cons (fun V Ld a w hLi hpre hR hI K hK => ?_) ?_
            ·
              have p7 : Ld 7 = true := hpre 7 (List.mem_of_elem_eq_true (by kernel_rfl))
              have f7 := (hR.ev 7 rfl rfl p7).trans (hI.v7 p7)
              exact J_load rfl _ (.tmp 172) rfl (by rw [f7]; exact ld_int (HN13.out.kep hI.kp (by omega)).c0) (hK _ _ { hI with v8 := fun _ => rfl })
            refine JSteps.cons (fun V Ld a w hLi hpre hR hI K hK => ?_) ?_
            ·
              have p8 : Ld 8 = true := hpre 8 (List.mem_of_elem_eq_true (by kernel_rfl))
              have f8 := (hR.ev 8 rfl rfl p8).trans (hI.v8 p8)
              exact J_binOp rfl _ _ (.tmp 173) (.const (.int .i64 1)) _ rfl (by rw [f8]; exact add_intE w T 1) (hK _ _ { hI with v9 := fun _ => ⟨_, rfl⟩ })
            refine JSteps.cons (fun V Ld a w hLi hpre hR hI K hK => ?_) ?_
            ·
              have e := (hR.old 5 (by kernel_rfl)).trans (show _ = Value.pointer (some ⟨xb, 0, none⟩) from rfl)
              exact J_indexAddr rfl _ (.tmp 5) (.const (.int .i64 1)) rfl (by rw [e]; exact ia_arr1 w xb) (hK _ _ { hI with v10 := fun _ => rfl })
            refine JSteps.cons (fun V Ld a w hLi hpre hR hI K hK => ?_) ?_
            ·
              have p10 : Ld 10 = true := hpre 10 (List.mem_of_elem_eq_true (by kernel_rfl))
              have f10 := (hR.ev 10 rfl rfl p10).trans (hI.v10 p10)
              exact J_load rfl _ (.tmp 175) rfl (by rw [f10]; exact ld_int (HA13.out.kep hI.kp (by omega)).c1) (hK _ _ { hI with v11 := fun _ => rfl })
            refine JSteps.cons (fun V Ld a w hLi hpre hR hI K hK => ?_) ?_
            ·
              have p6 : Ld 6 = true := hpre 6 (List.mem_of_elem_eq_true (by kernel_rfl))
              have p9 : Ld 9 = true := hpre 9 (List.mem_of_elem_eq_true (by kernel_rfl))
              have p11 : Ld 11 = true := hpre 11 (List.mem_of_elem_eq_true (by kernel_rfl))
              have f6 := (hR.ev 6 rfl rfl p6).trans (hI.v6 p6)
              obtain ⟨z, ez⟩ := hI.v9 p9
              have f9 := (hR.ev 9 rfl rfl p9).trans ez
              have f11 := (hR.ev 11 rfl rfl p11).trans (hI.v11 p11)
              have h16 : Ld 16 = false := by
                cases h : Ld 16 with
                | false => rfl
                | true => exact nf hLi (hI.d12 (hI.v16 h).1)
              exact J_buildSlice rfl _ 4 _ rfl (by simp only [List.map_toArray, List.map_cons, List.map_nil, f6, f9, f11]; exact bs_int4 w (-1) T z x1) (hK _ _ { (hI.move h16 (kep_alloc w _) (dice_alloc hI.dice _) (by omega) (by omega) (by omega) (fun g y _ _ h => h.alloc _)) with v12 := fun _ => ⟨_, z, rfl, hI.kp.size, fun _ => lit_ints w [-1, T, z, x1]⟩, d12 := fun _ => rfl })
            refine JSteps.cons (fun V Ld a w hLi hpre hR hI K hK => ?_) ?_
            ·
              have p4 : Ld 4 = true := hpre 4 (List.mem_of_elem_eq_true (by kernel_rfl))
              have p12 : Ld 12 = true := hpre 12 (List.mem_of_elem_eq_true (by kernel_rfl))
              have f4 := (hR.ev 4 rfl rfl p4).trans (hI.v4 p4)
              obtain ⟨g, z, e12, hg, hi⟩ := hI.v12 p12
              have f12 := (hR.ev 12 rfl rfl p12).trans e12
              have h16 : Ld 16 = false := by
                cases h : Ld 16 with
                | false => rfl
                | true => exact nf hLi (hI.v16 h).1
              have h15 : Ld 15 = true → False := fun h => by
                obtain ⟨g, y, e1, e2⟩ := hI.v15 h
                exact nf hLi (e2 h16).1
              obtain ⟨R, hRd⟩ := hI.dice
              refine J_call rfl _ _ _ rfl enter_of (by simp only [List.map_toArray, List.map_cons, List.map_nil, f4, f12]; rfl) (of_any D R (some ⟨g, 0, none⟩) [-1, T, z, x1] 4 w hRd (hi hLi) (fun b off e => by injection e with e; injection e with e1; omega) (by simp) (by simp)) ?_
              rintro e w' ⟨k, hk, rfl, hd', hg'⟩
              exact ⟨_, rfl, hK _ _ { hI.move h16 (kep_grown hg') ⟨_, hd'⟩ (by omega) (by omega) (by omega) (fun g y _ h _ => (h15 h).elim) with
                v12 := fun e => by obtain ⟨g, z, e1, e2, -⟩ := hI.v12 e; exact ⟨g, z, e1, e2, fun e4 => by cases e4⟩
                v13 := fun _ => ⟨_, rfl⟩
                v14 := fun e => ⟨rfl, (hI.v14 e).2⟩
                v15 := fun e => (h15 e).elim
                v16 := fun e => nf h16 e
                d12 := fun _ => p12 }⟩
            refine JSteps.cons (fun V Ld a w hLi hpre hR hI K hK => ?_) ?_
            ·
              have p3 : Ld 3 = true := hpre 3 (List.mem_of_elem_eq_true (by kernel_rfl))
              have p13 : Ld 13 = true := hpre 13 (List.mem_of_elem_eq_true (by kernel_rfl))
              have f3 := (hR.ev 3 rfl rfl p3).trans (hI.v3 p3)
              obtain ⟨y, e13⟩ := hI.v13 p13
              have f13 := (hR.ev 13 rfl rfl p13).trans e13
              exact J_build rfl _ _ rfl (by simp only [List.map_toArray, List.map_cons, List.map_nil, f3, f13]; exact bd_line w x0 y) (hK _ _ { hI with v14 := fun _ => ⟨p13, y, rfl⟩ })
            refine JSteps.cons (fun V Ld a w hLi hpre hR hI K hK => ?_) ?_
            ·
              have p14 : Ld 14 = true := hpre 14 (List.mem_of_elem_eq_true (by kernel_rfl))
              obtain ⟨p13, y, e14⟩ := hI.v14 p14
              have f14 := (hR.ev 14 rfl rfl p14).trans e14
              have h16 : Ld 16 = false := by
                cases h : Ld 16 with
                | false => rfl
                | true => exact nf hLi (hI.d15 h)
              exact J_buildSlice rfl _ 1 _ rfl (by simp only [List.map_toArray, List.map_cons, List.map_nil, f14]; exact bs_line w x0 y) (hK _ _ { (hI.move h16 (kep_alloc w _) (dice_alloc hI.dice _) (by omega) (by omega) (by omega) (fun g y _ _ h => h.alloc _)) with v15 := fun _ => ⟨_, y, rfl, fun _ => ⟨p13, ElAt.lit elL w (x0, y) 74⟩⟩, d15 := fun _ => rfl })
            refine JSteps.cons (fun V Ld a w hLi hpre hR hI K hK => ?_) ?_
            ·
              have p1 : Ld 1 = true := hpre 1 (List.mem_of_elem_eq_true (by kernel_rfl))
              have p13 : Ld 13 = true := hpre 13 (List.mem_of_elem_eq_true (by kernel_rfl))
              have p15 : Ld 15 = true := hpre 15 (List.mem_of_elem_eq_true (by kernel_rfl))
              have f1 := (hR.ev 1 rfl rfl p1).trans (hI.v1 p1)
              obtain ⟨g, y, e15, h15⟩ := hI.v15 p15
              have f15 := (hR.ev 15 rfl rfl p15).trans e15
              have hbw : bs ≤ w.heap.size := by have := hI.kp.size; omega
              refine J_app elL Try.underlying50 info_line rfl w rfl (.tmp 166) (.tmp 180) rfl bs (.slice U9 Ls.length uc9) Ls (x0, y) g f1 f15 (h15 hLi).2 (by omega) (by decide) (hI.own hLi) hbw ?_
              intro g' cap w' hown hg hor
              exact hK _ _ (hI.o16 hLi p13 (by omega) (by omega) HU9X.out p1 p15 hown hg hor)
            refine JSteps.cons (fun V Ld a w hLi hpre hR hI K hK => ?_) ?_
            ·
              have e := (hR.old 18 (by kernel_rfl)).trans (show _ = Value.pointer (some ⟨gc, 0, none⟩) from rfl)
              exact J_fieldAddr rfl _ (.tmp 18) 1 rfl (by rw [e]; exact fa_tab w gc) (hK _ _ { hI with v17 := fun _ => rfl })
            refine JSteps.cons (fun V Ld a w hLi hpre hR hI K hK => ?_) trivial
            ·
              have p17 : Ld 17 = true := hpre 17 (List.mem_of_elem_eq_true (by kernel_rfl))
              have p16 : Ld 16 = true := hpre 16 (List.mem_of_elem_eq_true (by kernel_rfl))
              have f17 := (hR.ev 17 rfl rfl p17).trans (hI.v17 p17)
              obtain ⟨w', hs, hI'⟩ := hI.o18 hLi p16 (by omega) (by omega)
              exact J_store rfl _ (.tmp 182) (.tmp 181) rfl (by rw [f17, hR.ev 16 rfl rfl p16]; exact hs) (hK _ _ hI')
          case refine_3 =>
            intro V Ld w14 hLd hI
            obtain ⟨-, g, vc, y, hgb, hT14, hat⟩ := hI.v18 (hLd 18 (by decide))
            have hd14 := hI.dice
            have hk14 := hI.kp
            simp only [finL, putL, Act.put, Nat.reduceAdd]
            clear hI hLd
            generalize V 0 = r0
            generalize V 1 = r1
            generalize V 2 = r2
            generalize V 3 = r3
            generalize V 4 = r4
            generalize V 5 = r5
            generalize V 6 = r6
            generalize V 7 = r7
            generalize V 8 = r8
            generalize V 9 = r9
            generalize V 10 = r10
            generalize V 11 = r11
            generalize V 12 = r12
            generalize V 13 = r13
            generalize V 14 = r14
            generalize V 15 = r15
            generalize V 16 = r16
            generalize V 17 = r17
            clear V
            have e1 : (Ls ++ [((x0, y) : Spd)]).length = Ls.length + 1 := by simp
            rw [← e1] at hT14
            have HT14 := Lib.hid hT14
            have HE14 := Lib.hid hat
            have HD14 := Lib.hid hd14
            have HK14 := Lib.hid hk14
            have HE1 := Lib.hid e1
            clear hT14 hat hd14 hk14 e1
            simp only [List.setIfInBounds_toArray, List.set_cons_succ, List.set_cons_zero]
            go_wp2_with fail
            go_meet
            exact ⟨Ls ++ [(x0, y)], _, vc, HT14.out, HE14.out, (fun a e => by injection e with e; subst e; exact hgb), by rw [HE1.out]; omega, HD14.out, HK14.out⟩
      case rest =>
        obtain ⟨M, Vm, vc, hTV, hEV, hVb, hMl, ⟨Rd, hDd⟩, hkd⟩ := hcut
        have hga2 : ga < bs := by omega
        have hnb2 : nb < bs := by omega
        have hTk := HTa.out.kep hkd (by omega)
        have hNk := HN13.out.kep hkd (by omega)
        have hUk : ElAt elC wc U C := HU13.out.kep hkd (fun a e => by have := HUX2.out a e; omega)
        have hLk : ElAt elL wc U8 Ls := HL13.out.kep hkd (fun a e => by have := HAX.out a e; omega)
        have hXk : IntsAt wc X ds := HX13.out.kepG hkd (fun a e h0 => by have := HXD.out a e h0; obtain ⟨b, off, e2, h2, -⟩ := HXi0.out 0 h0; rw [e2] at e; injection e with e; subst e; dsimp only at *; omega)
        have hbk := hkd.toBelow hbw13 (fun b hx => by omega)
        have HEV := Lib.hid hEV
        have HTV := Lib.hid hTV
        have HTk := Lib.hid hTk
        have HNk := Lib.hid hNk
        have HUk := Lib.hid hUk
        have HLk := Lib.hid hLk
        have HXk := Lib.hid hXk
        have HVb := Lib.hid hVb
        clear hEV hTV hTk hNk hUk hLk hXk hVb hkd HTa HTc HA13 HU13 HL13 HO13 HN13 HX13 HD13 hbw13
        go_wp2_with fail
        refine (contents_any D Rd 9 wc hDd (by omega)).mono ?_
        rintro e w15 ⟨v15, O, Rf, rfl, hown15, -, hOl, -, hg15⟩
        obtain ⟨Uo, uo, rfl, hO15, -, -, -, -⟩ := hown15.at_
        have hk15 : Kep (fun b => b = D) wc w15 := kep_grown hg15
        have HE15 := Lib.hid (show ElAt elL w15 Vm M from HEV.out.kep hk15 (fun a e => by have := HVb.out a e; omega))
        have hT15 := HTV.out.kep hk15 (by omega)
        have hS15 := HTk.out.kep hk15 (by omega)
        have hN15 := HNk.out.kep hk15 (by omega)
        have HU15 := Lib.hid (show ElAt elC w15 U C from HUk.out.kep hk15 (fun a e => (HUX2.out a e).1))
        have HL15 := Lib.hid (show ElAt elL w15 U8 Ls from HLk.out.kep hk15 (fun a e => (HAX.out a e).1))
        have HX15 := Lib.hid (HXk.out.kepG hk15 (fun a e h0 => HXD.out a e h0))
        have HO15 := Lib.hid hO15
        have hb15 := hk15.toBelow hbk (fun b hx => by omega)
        have n0 := hN15.c0
        have n1 := hN15.c1
        have n2 := hN15.c2
        have ln := hN15.lt
        have t0 := hT15.c0
        have t1 := hT15.c1
        have lt := hT15.lt
        have s0 := hS15.c0
        have s1 := hS15.c1
        have ls := hS15.lt
        have HT15 := Lib.hid hT15
        have HS15 := Lib.hid hS15
        have HN15 := Lib.hid hN15
        clear hown15 hg15 hk15 hT15 hS15 hN15 hO15 HEV HTV HTk HNk HUk HLk HXk hDd hbk
        have hw := fun W (hW : Below w15.heap.size w15 W) => weigh_any T A' B Uo O uo t8 Vm M vc W (HO15.out.below hW) (by omega) (HE15.out.below hW) (by omega)
        have hrw := fun W (hW : Below w15.heap.size w15 W) => refWeigh_any T A' B Uo O uo t8 Vm M vc W (HO15.out.below hW) (by omega) (HE15.out.below hW) (by omega)
        have hfa := fun W (hW : Below w15.heap.size w15 W) => factor_any T A' B U Uo C O uc uo X ds cx W (HU15.out.below hW) (HO15.out.below hW) (by omega) (by omega) (HX15.out.below hW) (by omega)
        have hrf := fun W (hW : Below w15.heap.size w15 W) => refFactor_any T A' B U Uo C O uc uo X ds cx W (HU15.out.below hW) (HO15.out.below hW) (by omega) (by omega) (HX15.out.below hW) (by omega)
        have HW := Lib.hid hw
        have HRW := Lib.hid hrw
        have HFA := Lib.hid hfa
        have HRF := Lib.hid hrf
        clear hw hrw hfa hrf
        go_wp2_with fail
        refine (HW.out w15 (Below.refl _ _)).mono ?_
        rintro e w16 ⟨u16, rfl, hown16, hb16⟩
        have hwl : (wgL T A' B O M).length ≤ 101 := by
          unfold wgL; split
          · rw [List.length_map]; exact hMl
          · simp
        unfold IntOwn at hown16
        obtain ⟨A16, c16, rfl, hI16⟩ := IntsAt.of_own hown16 rfl
        have HI16 := Lib.hid hI16
        have hN16 := HN15.out.below hb16
        have hT16 := HT15.out.below hb16
        have hS16 := HS15.out.below hb16
        clear n0 n1 n2 ln t0 t1 lt s0 s1 ls hown16 hI16 HW
        have n0 := hN16.c0
        have n1 := hN16.c1
        have n2 := hN16.c2
        have ln := hN16.lt
        have t0 := hT16.c0
        have t1 := hT16.c1
        have lt := hT16.lt
        have HN16 := Lib.hid hN16
        have HT16 := Lib.hid hT16
        have HS16 := Lib.hid hS16
        clear hN16 hT16 hS16
        go_wp2_with fail
        refine (HRW.out w16 hb16).mono ?_
        rintro e w17 ⟨u17, rfl, hown17, hb17⟩
        unfold IntOwn at hown17
        obtain ⟨A17, c17, rfl, hI17⟩ := IntsAt.of_own hown17 rfl
        generalize wgL T A' B O M = WL at *
        generalize wgE T A' B M = WE at *
        have hb1517 := hb16.trans (hb17.mono hb16.size)
        have HI17 := Lib.hid hI17
        have HJ17 := Lib.hid (HI16.out.below hb17)
        have hN17 := HN16.out.below hb17
        clear n0 n1 n2 ln t0 t1 lt hown17 hI17 HRW
        have n0 := hN17.c0
        have n1 := hN17.c1
        have n2 := hN17.c2
        have ln := hN17.lt
        have HN17 := Lib.hid hN17
        have hfa := HFA.out w17 hb1517
        have hrf := fun W (hW : Below w17.heap.size w17 W) => HRF.out W (hb1517.trans (hW.mono hb1517.size))
        unfold FacP at hfa hrf
        generalize fcV T A' B C O ds = FV at *
        generalize fcE T A' B ds = FE at *
        have HFa := Lib.hid hfa
        have HRf := Lib.hid hrf
        clear hN17 hfa hrf HFA HRF
        go_wp2_with fail
        refine HFa.out.mono ?_
        rintro e w18 ⟨rfl, hb18⟩
        have hN18 := HN17.out.below hb18
        clear n0 n1 n2 ln HFa
        have n0 := hN18.c0
        have n1 := hN18.c1
        have n2 := hN18.c2
        have ln := hN18.lt
        clear hN18
        go_wp2_with fail
        refine (HRf.out w18 hb18).mono ?_
        rintro e w19 ⟨rfl, hb19⟩
        have hb1719 := hb18.trans (hb19.mono hb18.size)
        have hb1519 := hb1517.trans (hb1719.mono hb1517.size)
        have hT19 := HT15.out.below hb1519
        have hS19 := HS15.out.below hb1519
        have HE19 := Lib.hid (HE15.out.below hb1519)
        have HL19 := Lib.hid (HL15.out.below hb1519)
        have HI19 := Lib.hid (HI17.out.below hb1719)
        have HJ19 := Lib.hid (HJ17.out.below hb1719)
        have hbw19 := hb15.trans (hb1519.mono hb15.size)
        have t0 := hT19.c0
        have t1 := hT19.c1
        have lt := hT19.lt
        have s0 := hS19.c0
        have s1 := hS19.c1
        have ls := hS19.lt
        have n1 : (WE == WE) = true := by simp
        have n2 : (FV == FV) = true := by simp
        have n3 : (FE == FE) = true := by simp
        have n4 : (eqT t8 t8 Ls M == eqT t8 t8 Ls M) = true := by simp
        clear n0 ln hT19 hS19 HI16 HN15 HT15 HS15 HN16 HT16 HS16 HN17 HE15 HL15 HU15 HX15 HO15 HI17 HJ17 hb16 hb17 hb18 hb19 hb1517 hb1719 hb1519 HRf hb15
        go_wp2_with fail
        refine wp_region_grew (by kernel_rfl) (by kernel_rfl) ?_
        repeat (go_big_quiet_step ((first
          | (go_at_call 24; exact grew_of (awake39 _))
          | (go_at_call 39; exact grew_same (same_refl A16 A17 WL c16 c17 _ (HJ19.out.below (grewW.below _ _)) (HI19.out.below (grewW.below _ _)) (by omega)))
          | (go_at_call 40; exact grew_of (sameT_any U8 Vm Ls M uc8 vc t8 t8 _ (HL19.out.below (grewW.below _ _)) (HE19.out.below (grewW.below _ _)) (by omega) (by omega)))
          | (go_at_call 32; exact grew_of (refSameT_any U8 Vm Ls M uc8 vc t8 t8 _ (HL19.out.below (grewW.below _ _)) (HE19.out.below (grewW.below _ _)) (by omega) (by omega))))))
        refine wpQuiet_nil ?_
        intro w20 hb20
        go_wp2_with fail
        go_ret
        exact RetB.bool rfl (hbw19.trans (hb20.mono hbw19.size))
end Go.Proofs.Ytmnkgfimdlhhiaa
namespace Go.Proofs.Ytmnkgfimdlhhiaa
open Go.RowKit

theorem cell_block_lt {w : World} {a : Addr} {v : Value} (h : w.cell? a = some v) : a.block < w.heap.size := by
  rcases Nat.lt_or_ge a.block w.heap.size with hlt | hge
  · exact hlt
  · unfold World.cell? at h; simp [Array.getElem?_eq_none hge] at h
theorem open_row {W : World} {x : Addr} {len cap : Nat} {zs : List Int} (hl : len ≤ cap) (hm : cap ≤ maxLen) (hz : zs.length = cap) (hcell : ∀ i, i < zs.length → W.cell? (x.add i) = some (.int .i64 (zs.getD i 0)))
    (hb : ∀ n ∈ zs, -9223372036854775808 ≤ n ∧ n ≤ 9223372036854775807) :
    ∃ ys : List Int, ys.length = len ∧ ys.length ≤ maxLen ∧ IntsAt W (some x) ys ∧ ∀ n ∈ ys, -9223372036854775808 ≤ n ∧ n ≤ 9223372036854775807 := by
  refine ⟨zs.take len, by simp; omega, by simp; omega, fun k hk => ?_, fun n hn => hb n (List.mem_of_mem_take hn)⟩
  have hk' : k < len := by simpa using Nat.lt_of_lt_of_le hk (List.length_take_le _ _)
  have h0 := hcell 0 (by omega)
  have hk0 := hcell k (by omega)
  obtain ⟨b, off, spot⟩ := x
  have hs : spot = none := by simpa [Addr.add] using World.cell?_spot h0
  subst hs
  have hlt := cell_block_lt hk0
  refine ⟨b, off, rfl, ?_, ?_⟩
  · unfold Addr.add at hlt; split at hlt <;> exact hlt
  · have e : (⟨b, off, none⟩ : Addr).add k = ⟨b, off + k, none⟩ := by
      unfold Addr.add; split
      · rename_i h; subst h; rfl
      · rfl
    rw [← e, hk0, nth_eq hk]
    simp [List.getD_eq_getElem?_getD, show k < zs.length by omega]
end Go.Proofs.Ytmnkgfimdlhhiaa
namespace Go.Proofs.Ytmnkgfimdlhhiaa
open Go.ChangeShapes
variable {H : Type} {enc : TypeId × Value → H} {P : Program} {w : World} {base : Nat} {spare : Nat → Bool} {held : Bool}

theorem trod_array2 {t e : TypeId} {fuel : Nat} {c0 c1 : Value} {x : DataW H × List MemPlace} (ht : P.underlying t = some (.array 2 e)) (hce : P.cellsOf e = 1)
    (h : DataW.trod enc P w base spare held fuel t [c0, c1] = some x) :
    ∃ y0 y1 n, x = (.agg [y0.1, y1.1], y0.2 ++ y1.2) ∧ DataW.trod enc P w base spare held n e [c0] = some y0 ∧ DataW.trod enc P w base spare held n e [c1] = some y1 := by
  cases fuel with
  | zero => simp [DataW.trod] at h
  | succ n =>
    unfold DataW.trod at h
    rw [ht] at h
    have r2 : List.range 2 = [0, 1] := rfl
    simp [r2, hce] at h
    obtain ⟨_, h⟩ := h
    cases h0 : DataW.trod enc P w base spare held n e [c0] with
    | none => simp [h0] at h
    | some y0 =>
      cases h1 : DataW.trod enc P w base spare held n e [c1] with
      | none => simp [h0, h1] at h
      | some y1 =>
        simp [h0, h1] at h
        exact ⟨y0, y1, n, h.symm, h0, h1⟩
end Go.Proofs.Ytmnkgfimdlhhiaa
