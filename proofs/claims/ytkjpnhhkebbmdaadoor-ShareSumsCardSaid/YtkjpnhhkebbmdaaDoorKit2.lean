/-
  Arrays of numbers that a call made itself, written in place.
-/
import Derived.Test.YtkjpnhhkebbmdaaDoorKit
namespace Go.Proofs.YtkjpnhhkebbmdaaDoor
open Go.RowKit

/-- Block g is just the numbers cs. -/
def IntBlk (w : World) (g : Nat) (cs : List Int) : Prop := w.heap[g]? = some (.cells (cs.map (Value.int .i64)).toArray 3 (0, 0))
theorem IntBlk.lt {w : World} {g : Nat} {cs : List Int} (h : IntBlk w g cs) : g < w.heap.size := by
  rcases Nat.lt_or_ge g w.heap.size with hlt | hge
  · exact hlt
  · unfold IntBlk at h; rw [Array.getElem?_eq_none hge] at h; cases h
theorem IntBlk.cell {w : World} {g : Nat} {cs : List Int} (h : IntBlk w g cs) (j : Nat) (hj : j < cs.length) : w.cell? ⟨g, j, none⟩ = some (.int .i64 (nth cs j)) := by
  rw [cell_of_row w g j _ _ (0, 0) h, nth_eq hj]; simp [hj]
theorem IntBlk.frozen {w : World} {g : Nat} {cs : List Int} (h : IntBlk w g cs) (j : Nat) : w.frozen? ⟨g, j, none⟩ = false := by
  unfold IntBlk at h; simp [World.frozen?, h]
theorem IntBlk.set_ {w : World} {g : Nat} {cs : List Int} (h : IntBlk w g cs) (j : Nat) (x : Int) : IntBlk (w.setCell ⟨g, j, none⟩ (.int .i64 x)) g (cs.set j x) := by
  unfold IntBlk at h ⊢
  simp [World.setCell, Array.getElem?_modify, h, List.map_set]
theorem IntBlk.drew {w : World} {g : Nat} {cs : List Int} (h : IntBlk w g cs) (n : Nat) : IntBlk (w.drewN n) g cs := h
theorem IntBlk.below {w w' : World} {g : Nat} {cs : List Int} (h : IntBlk w g cs) (hb : Below w.heap.size w w') : IntBlk w' g cs := (hb.block g h.lt).trans h
theorem IntBlk.ints {w : World} {g : Nat} {cs : List Int} (h : IntBlk w g cs) : IntsAt w (some ⟨g, 0, none⟩) cs := fun k hk =>
  ⟨g, 0, rfl, h.lt, by rw [Nat.zero_add]; exact h.cell k hk⟩
theorem IntBlk.of_own {w : World} {base g n : Nat} {L : List Int} (h : w.ownsRow base 3 1 (.slice (some ⟨g, 0, none⟩) n n) n (L.map (Value.int .i64))) : IntBlk w g L := by
  rcases h.2 with ⟨h0, _⟩ | ⟨g', cap, cur, hv, hg, hh, hnc, hcm, hcs, htk⟩
  · cases h0
  · injection hv with h1 h2 h3
    injection h1 with h1
    injection h1 with h1
    subst h1; subst h3
    unfold IntBlk
    rw [hh, ← htk, Nat.mul_one, List.take_of_length_le (by simp; omega)]
theorem below_drewN {B : Nat} {a w : World} (h : Below B a w) (n : Nat) : Below B a (w.drewN n) := ⟨h.os, h.tape, h.output, h.size, h.block⟩
theorem below_trans {w w1 w2 : World} (h1 : Below w.heap.size w w1) (h2 : Below w1.heap.size w1 w2) : Below w.heap.size w w2 := h1.trans (h2.mono h1.size)
theorem nth_set_same (cs : List Int) (j : Nat) (x : Int) (h : j < cs.length) : nth (cs.set j x) j = x := by
  rw [nth_eq (by simpa using h)]; simp
theorem nth_set_other (cs : List Int) (j k : Nat) (x : Int) (h : j ≠ k) : nth (cs.set j x) k = nth cs k := by
  simp [nth, List.getD_eq_getElem?_getD, h]
theorem nth_replicate (n k : Nat) : nth (List.replicate n 0) k = 0 := by
  simp only [nth, List.getD_eq_getElem?_getD, List.getElem?_replicate]; split <;> rfl
theorem list_ext_nth {L M : List Int} (hl : L.length = M.length) (h : ∀ k, k < L.length → nth L k = nth M k) : L = M := by
  refine List.ext_getElem hl fun k h1 h2 => ?_
  rw [← nth_eq h1, ← nth_eq h2]; exact h k h1

/-- make of n numbers. -/
theorem make_ints {ops : Array Oper} {rest : List Oper} {o : Oper} {a : Act} {Q : Exit → Act → World → Prop} (hg : o.guard = none) (l c : Operand) (hop : o.op = Op.makeSlice 22 l c)
    {w : World} {m : Int} (n : Nat) (hl : a.eval l = .int .i64 m) (hc : a.eval c = .int .i64 m) (hm : m = (n : Int)) (hn : n ≤ 1099511627776)
    (hK : ∀ w', IntBlk w' w.heap.size (List.replicate n 0) → Below w.heap.size w w' → wpList Tryd.prog ops Q rest (a.put o.dst (.slice (some ⟨w.heap.size, 0, none⟩) n n)) w') :
    wpList Tryd.prog ops Q (o :: rest) a w := by
  obtain ⟨i0, hi, hz0, hz1, hz2⟩ := info_parts info_int
  refine wpList_make_full w hg l c 22 hop w.heap.size 3 i0 _ 1 Tryd.underlying22 hi hz0 hz1 .i64 .i64 m m n hl hc hm hm (by rw [hz2]; omega) (by simp only [maxLen]; omega) (Nat.le_refl _) ?_
  intro w' hown hgr
  refine hK w' ?_ ⟨hgr.os, hgr.tape, hgr.output, hgr.size, fun k hk => hgr.block k hk (by simp)⟩
  rw [Nat.mul_one, show (Value.int .i64 0).cells = #[Value.int .i64 0] from rfl, toList_madeCells_one, ← List.map_replicate] at hown
  exact IntBlk.of_own hown

theorem ret_pure {P : Program} {f : FuncId} {args : Array Value} {w : World} {v : Value} {R : Ending → World → Prop} (h : Calls P f args w (Ret v w)) (hr : R (.returned v) w) : Calls P f args w R :=
  h.mono (by rintro e w1 ⟨rfl, rfl⟩; exact hr)
theorem ret_below {P : Program} {f : FuncId} {args : Array Value} {w : World} {v : Value} {R : Ending → World → Prop} (h : Calls P f args w (RetB v w)) (hr : ∀ w', Below w.heap.size w w' → R (.returned v) w') : Calls P f args w R :=
  h.mono (by rintro e w1 ⟨rfl, hb⟩; exact hr w1 hb)

/-! ### Dice -/
theorem dice_of_below {w w' : World} {D : Nat} {R : List Int} (h : DiceAt w D R) (hb : Below w.heap.size w w') : DiceAt w' D R := h.below hb
/-- A slice stands while dice are thrown, if it does not lie in the dice. -/
theorem IntsAt.grown {w w' : World} {A : Option Addr} {L : List Int} {D : Nat} (h : IntsAt w A L) (hg : w.grownBy w' (some D)) (hD : ∀ b off, A = some ⟨b, off, none⟩ → b ≠ D) : IntsAt w' A L := fun k hk => by
  obtain ⟨b, off, hA, hlt, hc⟩ := h k hk
  exact ⟨b, off, hA, Nat.lt_of_lt_of_le hlt hg.size, (World.cell?_of_block (w := w) (hg.block b hlt (by intro e; injection e with e; exact hD b off hA e))).trans hc⟩
theorem grown_cell {w w' : World} {D : Nat} (hg : w.grownBy w' (some D)) (b o : Nat) (hb : b < w.heap.size) (hne : b ≠ D) : w'.cell? ⟨b, o, none⟩ = w.cell? ⟨b, o, none⟩ :=
  World.cell?_of_block (w := w) (hg.block b hb (by intro e; injection e with e; exact hne e))
theorem grown_below {w w' : World} {D B : Nat} (hg : w.grownBy w' (some D)) (hB : B ≤ D) (hBs : B ≤ w.heap.size) : Below B w w' :=
  ⟨hg.os, hg.tape, hg.output, hg.size, fun k hk => hg.block k (by omega) (by intro e; injection e with e; omega)⟩
theorem grown_of_below {w w' : World} {r : Option Nat} (h : Below w.heap.size w w') : w.grownBy w' r := ⟨h.os, h.tape, h.output, h.size, fun k hk _ => h.block k hk⟩
theorem grown_trans {w w1 w2 : World} {r : Option Nat} (h1 : w.grownBy w1 r) (h2 : w1.grownBy w2 r) : w.grownBy w2 r :=
  ⟨h2.os.trans h1.os, h2.tape.trans h1.tape, h2.output.trans h1.output, Nat.le_trans h1.size h2.size, fun k hk hne => (h2.block k (Nat.lt_of_lt_of_le hk h1.size) hne).trans (h1.block k hk hne)⟩
theorem lit_ints (w : World) (L : List Int) : IntsAt (w.alloc (.cells (L.map (Value.int .i64)).toArray 3)) (some ⟨w.heap.size, 0, none⟩) L :=
  IntBlk.ints (heap_alloc_new w _)
theorem below_alloc (w : World) (o : Obj) : Below w.heap.size w (w.alloc o) := (Below.refl _ _).alloc (Nat.le_refl _) _
theorem DiceAt.alloc {w : World} {D : Nat} {R : List Int} (h : DiceAt w D R) (o : Obj) : DiceAt (w.alloc o) D R := h.below (below_alloc w o)

end Go.Proofs.YtkjpnhhkebbmdaaDoor
