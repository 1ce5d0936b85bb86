/-
  Shares: the holders and the values at a place, both at once.
-/
import Derived.Test.YtkjpnhhkebbmdaaDoorShG
namespace Go.Proofs.YtkjpnhhkebbmdaaDoor
open Go.RowKit

/-- Two rows of the own, in blocks that differ. -/
structure Two (w0 W : World) (base lo : Nat) (vx : Value) (X : List Nat) (vy : Value) (Y : List Nat) : Prop where
  ox : W.ownsRow base 3 1 vx X.length (valsN X)
  oy : W.ownsRow base 3 1 vy Y.length (valsN Y)
  ne : ∀ b, vx.ownBlock = some b → vy.ownBlock = some b → False
  below : Below base w0 W
  size : base ≤ W.heap.size
  up : lo ≤ W.heap.size
theorem Two.later {w0 W W' : World} {base lo : Nat} {vx vy : Value} {X Y : List Nat} (h : Two w0 W base lo vx X vy Y) (hb : Below W.heap.size W W') : Two w0 W' base lo vx X vy Y :=
  ⟨own_below h.ox hb, own_below h.oy hb, h.ne, h.below.trans (hb.mono h.size), Nat.le_trans h.size hb.size, Nat.le_trans h.up hb.size⟩
theorem Two.raise {w0 W : World} {base lo lo' : Nat} {vx vy : Value} {X Y : List Nat} (h : Two w0 W base lo vx X vy Y) (hl : lo' ≤ W.heap.size) : Two w0 W base lo' vx X vy Y := ⟨h.ox, h.oy, h.ne, h.below, h.size, hl⟩
theorem Two.alloc {w0 W : World} {base lo : Nat} {vx vy : Value} {X Y : List Nat} (h : Two w0 W base lo vx X vy Y) (o : Obj) : Two w0 (W.alloc o) base lo vx X vy Y := h.later (below_alloc _ _)
theorem Two.swap {w0 W : World} {base lo : Nat} {vx vy : Value} {X Y : List Nat} (h : Two w0 W base lo vx X vy Y) : Two w0 W base lo vy Y vx X := ⟨h.oy, h.ox, fun b e1 e2 => h.ne b e2 e1, h.below, h.size, h.up⟩
theorem Two.drew {w0 W : World} {base lo : Nat} {vx vy : Value} {X Y : List Nat} (h : Two w0 W base lo vx X vy Y) : Two w0 W.drew base lo vx X vy Y := ⟨h.ox, h.oy, h.ne, h.below.drew, h.size, h.up⟩
theorem step_two {ops : Array Oper} {o : Oper} {a : Act} {K : Act → World → Prop} {Q : Exit → Act → World → Prop} {E : Prop} (W : World) (hgd : o.guard = none) (s x : Operand)
    (ho : o.op = .call { callee := .builtin .append, args := #[s, x], argTypes := #[22, 22] })
    (w0 : World) (base lo g : Nat) (vx : Value) (X : List Nat) (vy : Value) (Y : List Nat) (y : Nat) (hs : a.eval s = vx) (hx : a.eval x = .slice (some ⟨g, 0, none⟩) 1 1)
    (hT : Two w0 W base lo vx X vy Y) (hL : NatBlk W g [y]) (hl : X.length ≤ 4194304)
    (h : ∀ v' w', Two w0 w' base lo v' (X ++ [y]) vy Y → (∀ g' L, NatBlk W g' L → (∀ b, vx.ownBlock = some b → b ≠ g') → NatBlk w' g' L) → (∀ q : Addr, q.block < lo → (∀ b, vx.ownBlock = some b → b ≠ q.block) → w'.cell? q = W.cell? q) → W.heap.size ≤ w'.heap.size → K (a.put o.dst v') w') :
    if Region.wanted o (yielded ops a.tmps) = true then Oper.wp Tryd.prog o a W K Q else E := by
  obtain ⟨i0, hi, hz0, hz1, hz2⟩ := info_parts info_int
  refine step_append_lies _ hgd s x 22 ho base 3 i0 _ 1 8 Tryd.underlying22 hi hz0 hz1 hz2 rfl (by omega) vx X.length (valsN X) hs hT.ox ⟨g, 0, none⟩ 1 1 (valsN [y]) hx rfl (hL.nats.news rfl) (valsN_one [y]) (by omega) (by unfold maxLen; omega) (by omega) hT.size _ rfl ?_
  intro g1 cap w' ho' hg hat _
  have hB : Below base W w' := (Below.refl _ _).grown hg hT.size (fun k hk => (hT.ox.lt k hk).1)
  refine h _ w' ⟨by rw [List.length_append]; simpa [valsN] using ho', ?_, ?_, hT.below.trans hB, Nat.le_trans hT.size hg.size, Nat.le_trans hT.up hg.size⟩ ?_ (fun q hq hne => World.cell?_of_block (w := W) (hg.block q.block (Nat.lt_of_lt_of_le hq hT.up) (fun e => hne q.block e.symm rfl))) hg.size
  · refine hT.oy.kept hg ?_
    rcases hy : vy.ownBlock with _ | b
    · exact .inl rfl
    · exact .inr (fun e => hT.ne b e.symm hy)
  · intro b e1 e2
    have hb1 : b = g1 := (Option.some.inj (show some g1 = some b from e1)).symm
    subst hb1
    rcases hat with e | e
    · exact hT.ne b e e2
    · have := (hT.oy.lt b e2).2; omega
  · intro g' L hN hne
    exact (hg.block g' hN.lt (fun e => hne g' e.symm rfl)).trans hN
theorem drew_size (w : World) : w.drew.heap.size = w.heap.size := rfl
theorem NatBlk.drew {w : World} {g : Nat} {L : List Nat} (h : NatBlk w g L) : NatBlk w.drew g L := h
theorem NatBlk.alloc {w : World} {g : Nat} {L : List Nat} (h : NatBlk w g L) (o : Obj) : NatBlk (w.alloc o) g L := h.below (below_alloc _ _)
theorem Two.farx {w0 W : World} {base lo : Nat} {vx vy : Value} {X Y : List Nat} (h : Two w0 W base lo vx X vy Y) (g : Nat) (hg : W.heap.size ≤ g) : ∀ b, vx.ownBlock = some b → b ≠ g := fun b e => by have := (h.ox.lt b e).2; omega

/-- The call returns two new lists. -/
def NewTwo (X Y : List Nat) (w : World) (e : Ending) (w' : World) : Prop :=
  ∃ A c B c', e = .returned (.tuple #[.slice A X.length c, .slice B Y.length c']) ∧ Two w w' w.heap.size w.heap.size (.slice A X.length c) X (.slice B Y.length c') Y

set_option maxRecDepth 100000 in
set_option maxHeartbeats 4000000 in
theorem points_any {P : Nat → Prop} (A : Option Addr) (c : Nat) (N : List ShN) (i : Nat) (w : World) (hS : ShP P w A c (shL N)) (hl : N.length ≤ 1048576) (hi : ∀ k, k < N.length → i < (vN N k).length) (hi2 : i ≤ 1048576) :
    Calls Tryd.prog 57 #[.slice A N.length c, .int .i64 i] w (NewTwo (hsN N) (colN N i) w) := by
  have HS := Lib.hid hS
  have HI := Lib.hid hi
  clear hS hi
  go_enter Tryd.func57, Tryd.ntmps57
  go_wp2_with fail
  go_loopw [6, 7, 12] (fun o1 o2 i' wr => ∃ k : Nat, k ≤ N.length ∧ i' = .int .i64 k ∧ Two w wr w.heap.size w.heap.size o1 (hsN (N.take k)) o2 (colN (N.take k) i)) (fun _ _ i' _ => N.length - (intOf i').toNat)
  case atStart => exact ⟨0, Nat.zero_le _, rfl, World.ownsRow_nil _ _ _ _, World.ownsRow_nil _ _ _ _, fun b e => by simp [Value.ownBlock] at e, Below.refl _ _, Nat.le_refl _, Nat.le_refl _⟩
  case round =>
    obtain ⟨k, hk, rfl, hT⟩ := hrel
    obtain ⟨XA, xc, rfl, -, -, -⟩ := own_sl hT.ox rfl
    obtain ⟨YA, yc, rfl, -, -, -⟩ := own_sl hT.oy rfl
    by_cases hlt : k < N.length
    · obtain ⟨b, off, B, c', rfl, hbl, -, h1, h2, hN, -⟩ := HS.out.nat hlt
      obtain ⟨b2, o2, rfl, hb2, hc2⟩ := hN i (HI.out k hlt)
      have d1 := (hT.below.cell (p := ⟨b, off + k * 2, none⟩) hbl).trans h1
      have d2 := (hT.below.cell (p := ⟨b, off + k * 2 + 1, none⟩) hbl).trans h2
      have d3 := (hT.below.cell (p := ⟨b2, o2 + i, none⟩) hb2).trans hc2
      have hik := HI.out k hlt
      have HT1 := Lib.hid (hsN_take hlt)
      have HT2 := Lib.hid (colN_take (i := i) hlt)
      have hl1 : (hsN (N.take k)).length ≤ 1048576 := by rw [hsN_len]; simp; omega
      have hl2 : (colN (N.take k) i).length ≤ 1048576 := by rw [colN_len]; simp; omega
      have i1 : (0 : Int) ≤ (i : Int) := by omega
      have i2 : (i : Int) < ((vN N k).length : Int) := by omega
      have hsz := hT.size
      have HT := Lib.hid hT
      clear hN hT h1 h2 hc2
      generalize hsN (N.take k) = X at *
      generalize colN (N.take k) i = Y at *
      generalize hN N k = x at *
      generalize nthN (vN N k) i = y at *
      have NX := Lib.hid (fun b e => HT.out.ox.lt b e)
      have NY := Lib.hid (fun b e => HT.out.oy.lt b e)
      go_wp2_with fail
      refine gen_world fun w1 hw1 => ?_
      have hb1 : Below wr.heap.size wr w1 := by rw [hw1]; exact below_alloc _ _
      have hsc : ShCell w1 wr.heap.size x (.slice (some ⟨b2, o2, none⟩) (vN N k).length c') := by rw [hw1]; exact ShCell.new _ _ rfl
      have s0 := hsc.c0
      have s1 := hsc.c1
      have ls := blk_lt hsc
      have hc3 := (hb1.cell (p := ⟨b2, o2 + i, none⟩) (Nat.lt_of_lt_of_le hb2 hsz)).trans d3
      have lb2 : b2 < w1.heap.size := Nat.lt_of_lt_of_le hb2 (Nat.le_trans hsz hb1.size)
      have T0 : Hid (Two w w1 w.heap.size w1.heap.size (.slice XA X.length xc) X (.slice YA Y.length yc) Y) := (HT.out.later hb1).raise (Nat.le_refl _)
      have hw1s : w1.drew.heap.size = w1.heap.size := rfl
      clear hw1 hsc d1 d2 d3
      go_region_held3 (fun w' => w'.cell? ⟨wr.heap.size, 0, none⟩ = some (.int .i64 (x : Int)) ∧ w'.cell? ⟨wr.heap.size, 1, none⟩ = some (.slice (some ⟨b2, o2, none⟩) (vN N k).length c') ∧ w'.cell? ⟨b2, o2 + i, none⟩ = some (.int .i64 (y : Int))) (first | exact ⟨z50, z51, z52⟩ | exact ⟨z60, z61, z62⟩ | go_keep)
        (first
          | (refine step_two _ rfl (.tmp 16) (.tmp 19) rfl w w.heap.size w1.heap.size _ (.slice XA X.length xc) X (.slice YA Y.length yc) Y x rfl rfl (by first | exact (T0.out.alloc _).drew | exact ((T0.out.alloc _).alloc _).drew) (by first | exact (lit1_at _ _ _ (by simp)).drew | exact (NatBlk.alloc (lit1_at _ _ _ (by simp)) _).drew) (by omega) ?_; intro v5 w5 T5 hc5 hk5 hz5; have hy5 := T5.up; have z50 : w5.cell? ⟨wr.heap.size, 0, none⟩ = some (.int .i64 (x : Int)) := (hk5 ⟨wr.heap.size, 0, none⟩ ls (fun b e => Nat.ne_of_lt (NX.out b e).2)).trans (by first | assumption | go_keep); have z51 : w5.cell? ⟨wr.heap.size, 1, none⟩ = some (.slice (some ⟨b2, o2, none⟩) (vN N k).length c') := (hk5 ⟨wr.heap.size, 1, none⟩ ls (fun b e => Nat.ne_of_lt (NX.out b e).2)).trans (by first | assumption | go_keep); have z52 : w5.cell? ⟨b2, o2 + i, none⟩ = some (.int .i64 (y : Int)) := (hk5 ⟨b2, o2 + i, none⟩ lb2 (fun b e => (Nat.ne_of_lt (Nat.lt_of_lt_of_le hb2 (NX.out b e).1)).symm)).trans (by first | assumption | go_keep); have zs5 := T5.size; clear hk5; have l5 : wr.heap.size < w5.heap.size := (by omega); have m5 : b2 < w5.heap.size := (by omega))
          | (refine step_two _ rfl (.tmp 16) (.tmp 19) rfl w w.heap.size w1.heap.size _ (.slice XA X.length xc) X v6 (Y ++ [y]) x rfl rfl (by first | exact T6.swap | exact T6.swap.alloc _) (by first | exact lit1_at _ _ _ (by simp) | exact hc6 _ _ (lit1_at _ _ _ (by simp)).drew (fun b e => by have := (NY.out b e).2; omega) | exact hc6 _ _ (NatBlk.alloc (lit1_at _ _ _ (by simp)) _).drew (fun b e => by have := (NY.out b e).2; omega)) (by omega) ?_; intro v5 w5 T5 hc5 hk5 hz5; have hy5 := T5.up; have z50 : w5.cell? ⟨wr.heap.size, 0, none⟩ = some (.int .i64 (x : Int)) := (hk5 ⟨wr.heap.size, 0, none⟩ ls (fun b e => Nat.ne_of_lt (NX.out b e).2)).trans (by first | assumption | go_keep); have z51 : w5.cell? ⟨wr.heap.size, 1, none⟩ = some (.slice (some ⟨b2, o2, none⟩) (vN N k).length c') := (hk5 ⟨wr.heap.size, 1, none⟩ ls (fun b e => Nat.ne_of_lt (NX.out b e).2)).trans (by first | assumption | go_keep); have z52 : w5.cell? ⟨b2, o2 + i, none⟩ = some (.int .i64 (y : Int)) := (hk5 ⟨b2, o2 + i, none⟩ lb2 (fun b e => (Nat.ne_of_lt (Nat.lt_of_lt_of_le hb2 (NX.out b e).1)).symm)).trans (by first | assumption | go_keep); have zs5 := T5.size; clear hk5; have l5 : wr.heap.size < w5.heap.size := (by omega); have m5 : b2 < w5.heap.size := (by omega))
          | (refine step_two _ rfl (.tmp 21) (.tmp 27) rfl w w.heap.size w1.heap.size _ (.slice YA Y.length yc) Y (.slice XA X.length xc) X y rfl rfl (by first | exact (T0.out.swap.alloc _).drew | exact ((T0.out.swap.alloc _).alloc _).drew) (by first | exact (lit1_at _ _ _ (by simp)).drew | exact (NatBlk.alloc (lit1_at _ _ _ (by simp)) _).drew) (by omega) ?_; intro v6 w6 T6 hc6 hk6 hz6; have hy6 := T6.up; have z60 : w6.cell? ⟨wr.heap.size, 0, none⟩ = some (.int .i64 (x : Int)) := (hk6 ⟨wr.heap.size, 0, none⟩ ls (fun b e => Nat.ne_of_lt (NY.out b e).2)).trans (by first | assumption | go_keep); have z61 : w6.cell? ⟨wr.heap.size, 1, none⟩ = some (.slice (some ⟨b2, o2, none⟩) (vN N k).length c') := (hk6 ⟨wr.heap.size, 1, none⟩ ls (fun b e => Nat.ne_of_lt (NY.out b e).2)).trans (by first | assumption | go_keep); have z62 : w6.cell? ⟨b2, o2 + i, none⟩ = some (.int .i64 (y : Int)) := (hk6 ⟨b2, o2 + i, none⟩ lb2 (fun b e => (Nat.ne_of_lt (Nat.lt_of_lt_of_le hb2 (NY.out b e).1)).symm)).trans (by first | assumption | go_keep); have zs6 := T6.size; clear hk6; have l6 : wr.heap.size < w6.heap.size := (by omega); have m6 : b2 < w6.heap.size := (by omega))
          | (refine step_two _ rfl (.tmp 21) (.tmp 27) rfl w w.heap.size w1.heap.size _ (.slice YA Y.length yc) Y v5 (X ++ [x]) y rfl rfl (by first | exact T5.swap | exact T5.swap.alloc _) (by first | exact lit1_at _ _ _ (by simp) | exact hc5 _ _ (lit1_at _ _ _ (by simp)).drew (fun b e => by have := (NX.out b e).2; omega) | exact hc5 _ _ (NatBlk.alloc (lit1_at _ _ _ (by simp)) _).drew (fun b e => by have := (NX.out b e).2; omega)) (by omega) ?_; intro v6 w6 T6 hc6 hk6 hz6; have hy6 := T6.up; have z60 : w6.cell? ⟨wr.heap.size, 0, none⟩ = some (.int .i64 (x : Int)) := (hk6 ⟨wr.heap.size, 0, none⟩ ls (fun b e => Nat.ne_of_lt (NY.out b e).2)).trans (by first | assumption | go_keep); have z61 : w6.cell? ⟨wr.heap.size, 1, none⟩ = some (.slice (some ⟨b2, o2, none⟩) (vN N k).length c') := (hk6 ⟨wr.heap.size, 1, none⟩ ls (fun b e => Nat.ne_of_lt (NY.out b e).2)).trans (by first | assumption | go_keep); have z62 : w6.cell? ⟨b2, o2 + i, none⟩ = some (.int .i64 (y : Int)) := (hk6 ⟨b2, o2 + i, none⟩ lb2 (fun b e => (Nat.ne_of_lt (Nat.lt_of_lt_of_le hb2 (NY.out b e).1)).symm)).trans (by first | assumption | go_keep); have zs6 := T6.size; clear hk6; have l6 : wr.heap.size < w6.heap.size := (by omega); have m6 : b2 < w6.heap.size := (by omega)))
      all_goals
        go_wp2_with fail
        go_roundw
        case rel => exact ⟨k + 1, by omega, by go_num, by rw [HT1.out, HT2.out]; first | exact T5.raise (by omega) | exact T6.swap.raise (by omega)⟩
        case measure => simp [intOf]; omega
    · obtain rfl : k = N.length := by omega
      rw [List.take_length] at hT
      rw [List.take_length]
      have HT := Lib.hid hT
      clear hT
      go_wp2_with fail
      go_ret2
      exact ⟨_, _, _, _, rfl, HT.out⟩
end Go.Proofs.YtkjpnhhkebbmdaaDoor
