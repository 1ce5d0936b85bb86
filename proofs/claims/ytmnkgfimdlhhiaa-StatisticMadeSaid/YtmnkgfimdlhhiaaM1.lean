/-
  Words that all later texts of this claim use: what a call returns, and what it leaves of memory.
  What the statements' own small functions do: Mod, Light, Roll, Next, Same; slices that read as lists of numbers; dice.
  Arrays of numbers that a call made itself, written in place.
  Budgets: slices that read as lists of spends; ranges.In.
  Budgets: Left and Total, the program's and the document's.
  Budgets: the document's used, Left and Check.
  Budgets: the program's Check, by a map of what each period spent.
  Budgets: slices of spends that a call made itself; Clone, Copy.
  Published numbers: how many contents are of a department; which lists can be those of a table. Plain laws.
  Conditions: those that each theorem names.
-/
import Derived.Test.YtmnkgfimdlhhiaaProg
import Derived.WalkKit
import Derived.WalkSpells
import Derived.WalkLawsBesides
import Derived.Deep.QuietTactic
import Derived.BigQuiet
import Derived.Lib.Hide
import Derived.Conc.MuLone
import Derived.StillTailTactics
import Derived.Maps.RangeWalk
import Derived.Maps.Ext
import Derived.Maps.OwnOps
set_option linter.unusedVariables false
set_option linter.unusedSimpArgs false
namespace Go.Proofs.Ytmnkgfimdlhhiaa
open Go.RowKit

/-- The call returns v and leaves the world as it was. -/
def Ret (v : Value) (w : World) (e : Ending) (w' : World) : Prop := e = .returned v ∧ w' = w
/-- The call returns v; what was there is as it was. -/
def RetB (v : Value) (w : World) (e : Ending) (w' : World) : Prop := e = .returned v ∧ Below w.heap.size w w'
/-- The call returns something of which Φ holds; what was there is as it was. -/
def RetP (Φ : Value → World → Prop) (w : World) (e : Ending) (w' : World) : Prop := ∃ v, e = .returned v ∧ Below w.heap.size w w' ∧ Φ v w'

theorem Ret.val {v u : Value} {w : World} (h : u = v) : Ret v w (.returned u) w := ⟨by rw [h], rfl⟩
theorem Ret.int {k : IntKind} {m u : Int} {w : World} (h : u = m) : Ret (.int k m) w (.returned (.int k u)) w := ⟨by rw [h], rfl⟩
theorem Ret.bool {m u : Bool} {w : World} (h : u = m) : Ret (.bool m) w (.returned (.bool u)) w := ⟨by rw [h], rfl⟩
theorem RetB.val {v u : Value} {w w' : World} (h : u = v) (hb : Below w.heap.size w w') : RetB v w (.returned u) w' := ⟨by rw [h], hb⟩
theorem RetB.int {k : IntKind} {m u : Int} {w w' : World} (h : u = m) (hb : Below w.heap.size w w') : RetB (.int k m) w (.returned (.int k u)) w' := ⟨by rw [h], hb⟩
theorem RetB.bool {m u : Bool} {w w' : World} (h : u = m) (hb : Below w.heap.size w w') : RetB (.bool m) w (.returned (.bool u)) w' := ⟨by rw [h], hb⟩
theorem RetP.mk {Φ : Value → World → Prop} {v : Value} {w w' : World} (hb : Below w.heap.size w w') (h : Φ v w') : RetP Φ w (.returned v) w' := ⟨v, rfl, hb, h⟩

/-- What a world that keeps all below says of old cells. -/
theorem bcell {B : Nat} {W w1 : World} (hb : Below B W w1) : (∀ b o, b < B → w1.cell? ⟨b, o, none⟩ = W.cell? ⟨b, o, none⟩) ∧ (∀ b o, b < B → w1.frozen? ⟨b, o, none⟩ = W.frozen? ⟨b, o, none⟩) :=
  ⟨fun b o h => hb.cell (p := ⟨b, o, none⟩) h, fun b o h => hb.frozen (p := ⟨b, o, none⟩) h⟩

/-- A world in which all that was there stands as it stood, and more may have come. -/
structure Grew (w : World) where
  to : World
  ok : Below w.heap.size w to
instance (w : World) : Nonempty (Grew w) := ⟨⟨w, Below.refl _ _⟩⟩
def grewW (w : World) (t : Grew w) : World := t.to
theorem grewW.below (w : World) (t : Grew w) : Below w.heap.size w (grewW w t) := t.ok
@[simp, go_sem] theorem cell_grewW (w : World) (t : Grew w) (b o : Nat) (h : b < w.heap.size) : (grewW w t).cell? ⟨b, o, none⟩ = w.cell? ⟨b, o, none⟩ := t.ok.cell h
@[simp, go_sem] theorem frozen_grewW (w : World) (t : Grew w) (b o : Nat) (h : b < w.heap.size) : (grewW w t).frozen? ⟨b, o, none⟩ = w.frozen? ⟨b, o, none⟩ := t.ok.frozen h
theorem IsGrew {w w' : World} (h : Below w.heap.size w w') : ∃ t, w' = grewW w t := ⟨⟨w', h⟩, rfl⟩

/-- A region that draws its order, whose operations read what was there, and whose callees keep it: the walk in the text's order serves. -/
theorem wp_region_grew {P : Program} {id : Nat} {Q : Exit → Act → World → Prop} {a : Act} {w : World} {l : List Oper} (hm : P.follows .mixedOrders = true) (hB : Region.lexB .any l.toArray = true)
    (h : wpQuiet P l.toArray (fun w' => ∃ t, w' = grewW w t) (fun a' => ∀ w', Below w.heap.size w w' → Q .normal a' w') l a) : (Code.region id l.toArray true).wp P Q a w := by
  refine wp_region_quiet (C := fun w' => ∃ t, w' = grewW w t) hm hB (IsGrew (Below.refl _ _).drew) ?_
  have e : (fun a' => ∀ w', (∃ t, w' = grewW w t) → Q .normal a' w') = (fun a' => ∀ w', Below w.heap.size w w' → Q .normal a' w') := by
    funext a'
    exact propext ⟨fun g w' hb => g w' (IsGrew hb), fun g w' ⟨t, ht⟩ => ht ▸ g _ t.ok⟩
  rw [e]
  simpa using h
/-- A callee's contract, met in a grown world. -/
theorem grew_of {P : Program} {f : FuncId} {args : Array Value} {w : World} {t : Grew w} {v : Value}
    (h : Calls P f args (grewW w t) (RetB v (grewW w t))) : Calls P f args (grewW w t) fun e w'' => e = .returned v ∧ ∃ m, w'' = grewW w m :=
  h.mono fun _ _ ⟨he, hb⟩ => ⟨he, IsGrew (t.ok.trans (hb.mono t.ok.size))⟩
theorem grew_same {P : Program} {f : FuncId} {args : Array Value} {w : World} {t : Grew w} {v : Value}
    (h : Calls P f args (grewW w t) (Ret v (grewW w t))) : Calls P f args (grewW w t) fun e w'' => e = .returned v ∧ ∃ m, w'' = grewW w m :=
  h.mono fun _ _ ⟨he, hb⟩ => ⟨he, t, hb⟩

/-- The world behind a name. -/
theorem gen_world {P : Program} {c : Code} {Q : Exit → Act → World → Prop} {a : Act} {w : World} (h : ∀ w1, w1 = w → c.wp P Q a w1) : c.wp P Q a w := h w rfl

theorem ownsRow_mono {w : World} {base base' : Nat} {e : TypeId} {size : Nat} {v : Value} {n : Nat} {xs : List Value} (h : w.ownsRow base e size v n xs) (hb : base' ≤ base) : w.ownsRow base' e size v n xs := by
  obtain ⟨h1, h2⟩ := h
  refine ⟨h1, ?_⟩
  rcases h2 with h2 | ⟨g, cap, cur, hv, hg, r⟩
  · exact Or.inl h2
  · exact Or.inr ⟨g, cap, cur, hv, Nat.le_trans hb hg, r⟩

theorem own_below {w w' : World} {base : Nat} {e : TypeId} {size : Nat} {v : Value} {n : Nat} {xs : List Value} (h : w.ownsRow base e size v n xs) (hb : Below w.heap.size w w') : w'.ownsRow base e size v n xs := by
  obtain ⟨h1, h2⟩ := h
  refine ⟨h1, ?_⟩
  rcases h2 with h2 | ⟨g, cap, cur, hv, hg, hh, r⟩
  · exact Or.inl h2
  · refine Or.inr ⟨g, cap, cur, hv, hg, ?_, r⟩
    have hlt : g < w.heap.size := by
      rcases Nat.lt_or_ge g w.heap.size with hlt | hge
      · exact hlt
      · rw [Array.getElem?_eq_none hge] at hh; cases hh
    exact (hb.block g hlt).trans hh

/-- append of one element onto a row of the call's own, the element's slice just made. -/
theorem app_one {P : Program} {ops : Array Oper} {rest : List Oper} {o : Oper} {a : Act} {Q : Exit → Act → World → Prop} (hgd : o.guard = none) (s x : Operand) (t : TypeId)
    (ho : o.op = .call { callee := .builtin .append, args := #[s, x], argTypes := #[t, t] })
    {base : Nat} {e : TypeId} {z : Value} {bytes : Nat} (ht : P.underlying t = some (.slice e)) (hinfo : (P.info? e).map (fun i => (i.zero, i.size, i.bytes)) = some (some z, 1, bytes)) (hzs : z.cells.size = 1)
    {w : World} {v : Value} {n : Nat} {xs : List Value} {u : Value} (hs : a.eval s = v) (hown : w.ownsRow base e 1 v n xs)
    (hx : a.eval x = .slice (some ⟨w.heap.size, 0, none⟩) 1 1) (h1 : u.oneCell' = true) (h63 : n + 1 ≤ maxLen) (hbytes : (n + 1) * bytes ≤ 140737488355328) (hbase : base ≤ w.heap.size)
    (h : ∀ v' w', w'.ownsRow base e 1 v' (n + 1) (xs ++ [u]) → w.grownBy w' v.ownBlock → Below base w w' → wpList P ops Q rest (a.put o.dst v') w') :
    wpList P ops Q (o :: rest) a (w.alloc (.cells #[u] e)) := by
  obtain ⟨i0, hi, hz0, hz1, hz2⟩ := info_parts hinfo
  refine wpList_append_own _ hgd s x t ho base e i0 z 1 bytes ht hi hz0 hz1 hz2 hzs (by omega) v n xs hs (hown.alloc _) ⟨w.heap.size, 0, none⟩ 1 1 [u] hx rfl ?_ ?_ h63 hbytes (by simp; omega) ?_
  · intro j y hj
    rcases j with _ | j
    · simp at hj; subst hj
      simp [Addr.add]
    · simp at hj
  · intro y hy; simp at hy; subst hy; exact h1
  · intro v' w' h2 h3 _
    have hg : w.grownBy w' v.ownBlock := ⟨h3.os, h3.tape, h3.output, Nat.le_trans (by simp) h3.size, fun k hk hne => (h3.block k (by simp; omega) hne).trans (Below.heap_alloc w _ k hk)⟩
    exact h v' w' h2 hg ((Below.refl _ _).grown hg hbase (fun k hk => (hown.lt k hk).1))
end Go.Proofs.Ytmnkgfimdlhhiaa
namespace Go.Proofs.Ytmnkgfimdlhhiaa
open Go.RowKit

theorem info_int : (Try.prog.info? 3).map (fun i => (i.zero, i.size, i.bytes)) = some (some (.int .i64 0), 1, 8) := by kernel_rfl

/-- Number k of a list (0 behind its end). -/
def nth (L : List Int) (k : Nat) : Int := L.getD k 0
theorem nth_eq {L : List Int} {k : Nat} (h : k < L.length) : nth L k = L[k] := by simp [nth, List.getD_eq_getElem?_getD, h]
/-- The address A leads to the numbers L. -/
def IntsAt (w : World) (A : Option Addr) (L : List Int) : Prop :=
  ∀ k, k < L.length → ∃ b off, A = some ⟨b, off, none⟩ ∧ b < w.heap.size ∧ w.cell? ⟨b, off + k, none⟩ = some (.int .i64 (nth L k))
theorem IntsAt.nil (w : World) (A : Option Addr) : IntsAt w A [] := fun k h => absurd h (by simp)
theorem IntsAt.below {w w' : World} {A : Option Addr} {L : List Int} (h : IntsAt w A L) (hb : Below w.heap.size w w') : IntsAt w' A L := fun k hk => by
  obtain ⟨b, off, hA, hlt, hc⟩ := h k hk
  exact ⟨b, off, hA, Nat.lt_of_lt_of_le hlt hb.size, (hb.cell hlt).trans hc⟩
theorem IntsAt.drew {w : World} {A : Option Addr} {L : List Int} (h : IntsAt w A L) (n : Nat) : IntsAt (w.drewN n) A L := h
theorem IntsAt.of_own {w : World} {base : Nat} {v : Value} {L : List Int} {n : Nat} (h : w.ownsRow base 3 1 v n (L.map (Value.int .i64))) (hn : n = L.length) : ∃ A c, v = .slice A L.length c ∧ IntsAt w A L := by
  subst hn
  rcases h.2 with ⟨rfl, h0⟩ | ⟨g, cap, cur, rfl, hg, hh, hnc, hcm, hcs, htk⟩
  · have : L = [] := List.eq_nil_of_length_eq_zero h0
    subst this
    exact ⟨none, 0, rfl, IntsAt.nil _ _⟩
  · refine ⟨some ⟨g, 0, none⟩, cap, rfl, fun k hk => ⟨g, 0, rfl, ?_, ?_⟩⟩
    · rcases Nat.lt_or_ge g w.heap.size with hlt | hge
      · exact hlt
      · rw [Array.getElem?_eq_none hge] at hh; cases hh
    · have := h.cellAt (j := k) (by omega)
      rw [Nat.zero_add, this, List.getElem?_map, nth_eq hk, List.getElem?_eq_getElem hk]
      rfl
theorem IntsAt.len_le {w : World} {base : Nat} {A : Option Addr} {n c : Nat} {xs : List Value} {e : TypeId} (h : w.ownsRow base e 1 (.slice A n c) n xs) : n ≤ maxLen := by
  rcases h.2 with ⟨_, h0⟩ | ⟨g, cap, cur, _, hg, hh, hnc, hcm, hcs, htk⟩
  · omega
  · omega

def modI (n m : Int) : Int := if m < 1 then 0 else n % m
theorem modI_lt (n m : Int) (h : m < 1) : modI n m = 0 := if_pos h
theorem modI_ge (n m : Int) (h : ¬ m < 1) : modI n m = n % m := if_neg h
theorem modI_range (n m : Int) (h : 1 ≤ m) : 0 ≤ modI n m ∧ modI n m < m := by
  rw [modI_ge n m (by omega)]; exact ⟨Int.emod_nonneg _ (by omega), Int.emod_lt_of_pos _ (by omega)⟩
theorem modI_tmod (n m : Int) (h : ¬ m < 1) : n.tmod m % m = modI n m := by
  rw [modI_ge n m h, Int.tmod_def, Int.sub_mul_emod_self_left]
def nextV (R : List Int) (n : Int) : Int := match R with | [] => 0 | x :: _ => modI x n
theorem nextV_range (R : List Int) (n : Int) (h : 1 ≤ n) : 0 ≤ nextV R n ∧ nextV R n < n := by
  cases R with
  | nil => exact ⟨Int.le_refl _, by simp [nextV]; omega⟩
  | cons x R => exact modI_range x n h

set_option maxHeartbeats 400000 in
theorem mod_any (n m : Int) (w : World) (hm : m ≤ 4611686018427387904) :
    Calls Try.prog 47 #[.int .i64 n, .int .i64 m] w (Ret (.int .i64 (modI n m)) w) := by
  by_cases h : m < 1
  · go_enter Try.func47, Try.ntmps47
    go_wp2
    go_ret
    exact Ret.int (modI_lt n m h).symm
  · have h1 := Int.tmod_lt_of_pos n (b := m) (by omega)
    have h2 := Int.lt_tmod_of_pos n (b := m) (by omega)
    have HE := Lib.hid (modI_tmod n m h)
    go_enter Try.func47, Try.ntmps47
    go_wp2
    go_ret
    exact Ret.int HE.out

set_option maxHeartbeats 400000 in
theorem light_any (A : Option Addr) (n c : Nat) (w : World) :
    Calls Try.prog 14 #[.slice A n c] w (Ret (.bool (decide ((n : Int) ≤ 500))) w) := by
  go_enter Try.func14, Try.ntmps14
  go_wp2
  go_ret
  exact Ret.bool rfl

/-- Block D is dice that have the numbers R still to give; what they were made of lies before them. -/
def DiceAt (w : World) (D : Nat) (R : List Int) : Prop :=
  ∃ (A : Option Addr) (c : Nat) (L : List Int) (i : Nat), w.heap[D]? = some (.cells #[.slice A L.length c, .int .i64 i] 81 (0, 0)) ∧ i ≤ L.length ∧ L.length ≤ maxLen ∧ R = L.drop i ∧
    ∀ k, k < L.length → ∃ b off, A = some ⟨b, off, none⟩ ∧ b < D ∧ w.cell? ⟨b, off + k, none⟩ = some (.int .i64 (nth L k))
theorem DiceAt.lt {w : World} {D : Nat} {R : List Int} (h : DiceAt w D R) : D < w.heap.size := by
  obtain ⟨A, c, L, i, hD, _⟩ := h
  rcases Nat.lt_or_ge D w.heap.size with hlt | hge
  · exact hlt
  · rw [Array.getElem?_eq_none hge] at hD; cases hD
/-- Dice stand where nothing up to them has turned. -/
theorem DiceAt.keep {w w' : World} {D : Nat} {R : List Int} (h : DiceAt w D R) (hb : ∀ k, k ≤ D → w'.heap[k]? = w.heap[k]?) : DiceAt w' D R := by
  obtain ⟨A, c, L, i, hD, hi, hl, hR, hc⟩ := h
  refine ⟨A, c, L, i, (hb D (Nat.le_refl _)).trans hD, hi, hl, hR, fun k hk => ?_⟩
  obtain ⟨b, off, hA, hbl, hcell⟩ := hc k hk
  exact ⟨b, off, hA, hbl, (World.cell?_of_block (w := w) (hb b (Nat.le_of_lt hbl))).trans hcell⟩
theorem DiceAt.below {w w' : World} {D : Nat} {R : List Int} (h : DiceAt w D R) (hb : Below w.heap.size w w') : DiceAt w' D R := by
  have hlt := h.lt
  exact h.keep fun k hk => hb.block k (by omega)
theorem DiceAt.setCell {w : World} {D : Nat} {R : List Int} (h : DiceAt w D R) (p : Addr) (v : Value) (hp : D < p.block) : DiceAt (w.setCell p v) D R :=
  h.keep fun k hk => Below.heap_setCell w p v k (by omega)
theorem DiceAt.drewN {w : World} {D : Nat} {R : List Int} (h : DiceAt w D R) (n : Nat) : DiceAt (w.drewN n) D R := h

set_option maxHeartbeats 400000 in
theorem roll_any (A : Option Addr) (L : List Int) (c : Nat) (w : World) (hl : L.length ≤ maxLen) (h : IntsAt w A L) :
    Calls Try.prog 15 #[.slice A L.length c] w
      (fun e w' => ∃ D, e = .returned (.pointer (some ⟨D, 0, none⟩)) ∧ w.heap.size ≤ D ∧ DiceAt w' D L ∧ Below w.heap.size w w') := by
  go_enter Try.func15, Try.ntmps15
  go_wp2
  go_ret
  refine ⟨_, rfl, Nat.le_refl _, ⟨A, c, L, 0, ?_, Nat.zero_le _, hl, rfl, fun k hk => ?_⟩, (Below.refl _ _).alloc (Nat.le_refl _) _⟩
  · exact heap_alloc_new w _
  · obtain ⟨b, off, hA, hlt, hc⟩ := h k hk
    refine ⟨b, off, hA, hlt, ?_⟩
    rw [World.cell?_alloc_past _ _ _ hlt]; exact hc

/-- What dice leave of memory: their own block alone turns, and new blocks come. -/
def NextP (D : Nat) (x : Int) (R : List Int) (w : World) (e : Ending) (w' : World) : Prop := e = .returned (.int .i64 x) ∧ DiceAt w' D R ∧ w.grownBy w' (some D)

theorem nextV_drop {L : List Int} {i : Nat} (n : Int) (hk : i < L.length) : modI (nth L i) n = nextV (L.drop i) n := by
  rw [List.drop_eq_getElem_cons hk]; simp [nextV, nth_eq hk]
theorem dice_step {w : World} {D : Nat} {A : Option Addr} {c : Nat} {L : List Int} {i : Nat} {R : List Int} (n : Int) (a b : Nat)
    (hD : w.heap[D]? = some (.cells #[.slice A L.length c, .int .i64 i] 81 (0, 0))) (hk : i < L.length) (hl : L.length ≤ maxLen) (hR : R = L.drop i)
    (hc : ∀ k, k < L.length → ∃ b off, A = some ⟨b, off, none⟩ ∧ b < D ∧ w.cell? ⟨b, off + k, none⟩ = some (.int .i64 (nth L k))) :
    NextP D (nextV R n) R.tail w (.returned (.int .i64 (modI (nth L i) n))) (((w.drewN a).setCell ⟨D, 1, none⟩ (.int .i64 ((i : Int) + 1))).drewN b) := by
  subst hR
  refine ⟨by rw [nextV_drop n hk], ⟨A, c, L, i + 1, ?_, hk, hl, by simp, fun k hk => ?_⟩, ⟨rfl, rfl, rfl, by simp [World.setCell], fun k hk hne => ?_⟩⟩
  · simp [World.setCell, Array.getElem?_modify, hD]
  · obtain ⟨b', off, hA, hlt, hcell⟩ := hc k hk
    refine ⟨b', off, hA, hlt, ?_⟩
    rw [World.cell?_drewN, World.cell?_setCell_other _ _ _ _ (fun e => by injection e with e1; omega)]
    exact hcell
  · exact Below.heap_setCell (w.drewN a) ⟨D, 1, none⟩ _ k (fun e => hne (by rw [e]))

set_option maxHeartbeats 400000 in
theorem next_any (D : Nat) (R : List Int) (n : Int) (w : World) (h : DiceAt w D R) (hn : n ≤ 4611686018427387904) :
    Calls Try.prog 18 #[.pointer (some ⟨D, 0, none⟩), .int .i64 n] w (NextP D (nextV R n) R.tail w) := by
  have hlt := h.lt
  obtain ⟨A, c, L, i, hD, hi, hl, hR, hc⟩ := h
  unfold maxLen at hl
  have c0 := cell_of_row w D 0 _ _ (0, 0) hD
  have c1 := cell_of_row w D 1 _ _ (0, 0) hD
  have f1 : w.frozen? ⟨D, 1, none⟩ = false := by simp [World.frozen?, hD]
  simp at c0 c1
  by_cases hk : i < L.length
  · obtain ⟨b, off, rfl, hbl, hcell⟩ := hc i hk
    have HS := Lib.hid (fun a b => dice_step (R := R) n a b hD hk hl hR hc)
    clear hD hR hc
    go_enter Try.func18, Try.ntmps18
    go_wp2
    go_quiet (fail)
    go_wp2
    have hne' : ¬ (⟨D, 1, none⟩ : Addr) = ⟨b, off + i, none⟩ := fun e => by injection e with e1; omega
    have hcell' : ((w.drewN nq).setCell ⟨D, 1, none⟩ (.int .i64 ((i : Int) + 1))).cell? ⟨b, off + i, none⟩ = some (.int .i64 (nth L i)) := by
      rw [World.cell?_setCell_other _ _ _ _ hne']; exact hcell
    go_quiet ((go_at_call 47; exact Calls.quiet_of_same (mod_any _ _ _ hn)))
    go_wp2
    go_ret
    exact HS.out _ _
  · have HS : Hid (∀ a, NextP D (nextV R n) R.tail w (.returned (.int .i64 0)) (w.drewN a)) := fun a => by
      have hn : R = [] := by rw [hR, List.drop_eq_nil_of_le (by omega)]
      subst hn
      refine ⟨rfl, ?_, ⟨rfl, rfl, rfl, Nat.le_refl _, fun _ _ _ => rfl⟩⟩
      exact ⟨A, c, L, i, hD, hi, hl, by simpa using hR, hc⟩
    clear hD hR hc
    go_enter Try.func18, Try.ntmps18
    go_wp2
    go_quiet (fail)
    go_wp2
    go_ret
    exact HS.out _

def sameL (L M : List Int) : Bool := decide (L = M)
theorem sameL_len {L M : List Int} (h : L.length ≠ M.length) : false = sameL L M := by
  simp only [sameL]; exact (decide_eq_false (fun e => h (by rw [e]))).symm
theorem sameL_at {L M : List Int} (k : Nat) (h : nth L k ≠ nth M k) : false = sameL L M := by
  simp only [sameL]; exact (decide_eq_false (fun e => h (by rw [e]))).symm
theorem sameL_all {L M : List Int} (hl : L.length = M.length) (h : L.take L.length = M.take L.length) : true = sameL L M := by
  simp only [sameL]; refine (decide_eq_true ?_).symm
  rw [List.take_length, hl, List.take_length] at h; exact h
theorem take_snoc_getD (L : List Int) (k : Nat) (h : k < L.length) : L.take (k + 1) = L.take k ++ [nth L k] := by
  rw [List.take_succ_eq_append_getElem h, nth_eq h]

set_option maxHeartbeats 400000 in
theorem same_any (A A' : Option Addr) (L M : List Int) (c c' : Nat) (w : World) (hL : IntsAt w A L) (hM : IntsAt w A' M) (hl : L.length ≤ 1152921504606846976) :
    Calls Try.prog 39 #[.slice A L.length c, .slice A' M.length c'] w (Ret (.bool (sameL L M)) w) := by
  by_cases hlen : L.length = M.length
  · have HL := Lib.hid hlen
    have hlM : M.length ≤ L.length := by omega
    have hlM' : L.length ≤ M.length := by omega
    have heq : ((L.length : Int) != (M.length : Int)) = false := by simp [hlen]
    clear hlen
    go_enter Try.func39, Try.ntmps39
    go_wp2
    go_loop [14] (fun j => ∃ k : Nat, k ≤ L.length ∧ j = .int .i64 k ∧ L.take k = M.take k) (fun j => L.length - (intOf j).toNat)
    case atStart => exact ⟨0, Nat.zero_le _, rfl, rfl⟩
    case round =>
      obtain ⟨k, hk, rfl, hpre⟩ := hrel
      have HP := Lib.hid hpre
      clear hpre
      by_cases hlt : k < L.length
      · obtain ⟨b, off, rfl, _, hcell⟩ := hL k hlt
        obtain ⟨b', off', rfl, _, hcell'⟩ := hM k (by omega)
        by_cases hx : nth L k = nth M k
        · have hx' : (nth M k != nth L k) = false := by simp [hx]
          have HX := Lib.hid hx
          clear hx hL hM
          go_wp2
          go_round
          case rel => exact ⟨k + 1, by omega, by go_num, by rw [take_snoc_getD L k hlt, take_snoc_getD M k (by omega), HP.out, HX.out]⟩
          case measure => simp [intOf]; omega
        · have hx' : (nth M k != nth L k) = true := by simp; exact fun e => hx e.symm
          have HX := Lib.hid hx
          clear hx hL hM
          go_wp2
          go_ret
          exact Ret.bool (sameL_at k HX.out)
      · go_wp2
        go_ret
        refine Ret.bool (sameL_all HL.out ?_)
        have := HP.out
        rw [show L.length = k by omega]; exact this
  · have heq : ((L.length : Int) != (M.length : Int)) = true := by simp; omega
    go_enter Try.func39, Try.ntmps39
    go_wp2
    go_ret
    exact Ret.bool (sameL_len hlen)
theorem same_refl (A A' : Option Addr) (L : List Int) (c c' : Nat) (w : World) (hL : IntsAt w A L) (hM : IntsAt w A' L) (hl : L.length ≤ 1152921504606846976) :
    Calls Try.prog 39 #[.slice A L.length c, .slice A' L.length c'] w (Ret (.bool true) w) := by
  have := same_any A A' L L c c' w hL hM hl
  rw [show sameL L L = true by simp [sameL]] at this; exact this
end Go.Proofs.Ytmnkgfimdlhhiaa
namespace Go.Proofs.Ytmnkgfimdlhhiaa
open Go.RowKit

/-- Block g is just the numbers cs. -/
def IntBlk (w : World) (g : Nat) (cs : List Int) : Prop := w.heap[g]? = some (.cells (cs.map (Value.int .i64)).toArray 3 (0, 0))
theorem IntBlk.lt {w : World} {g : Nat} {cs : List Int} (h : IntBlk w g cs) : g < w.heap.size := by
  rcases Nat.lt_or_ge g w.heap.size with hlt | hge
  · exact hlt
  · unfold IntBlk at h; rw [Array.getElem?_eq_none hge] at h; cases h
theorem IntBlk.cell {w : World} {g : Nat} {cs : List Int} (h : IntBlk w g cs) (j : Nat) (hj : j < cs.length) : w.cell? ⟨g, j, none⟩ = some (.int .i64 (nth cs j)) := by
  rw [cell_of_row w g j _ _ (0, 0) h, nth_eq hj]; simp [hj]
theorem IntBlk.frozen {w : World} {g : Nat} {cs : List Int} (h : IntBlk w g cs) (j : Nat) : w.frozen? ⟨g, j, none⟩ = false := by
  unfold IntBlk at h; simp [World.frozen?, h]
theorem IntBlk.set_ {w : World} {g : Nat} {cs : List Int} (h : IntBlk w g cs) (j : Nat) (x : Int) : IntBlk (w.setCell ⟨g, j, none⟩ (.int .i64 x)) g (cs.set j x) := by
  unfold IntBlk at h ⊢
  simp [World.setCell, Array.getElem?_modify, h, List.map_set]
theorem IntBlk.drew {w : World} {g : Nat} {cs : List Int} (h : IntBlk w g cs) (n : Nat) : IntBlk (w.drewN n) g cs := h
theorem IntBlk.below {w w' : World} {g : Nat} {cs : List Int} (h : IntBlk w g cs) (hb : Below w.heap.size w w') : IntBlk w' g cs := (hb.block g h.lt).trans h
theorem IntBlk.ints {w : World} {g : Nat} {cs : List Int} (h : IntBlk w g cs) : IntsAt w (some ⟨g, 0, none⟩) cs := fun k hk =>
  ⟨g, 0, rfl, h.lt, by rw [Nat.zero_add]; exact h.cell k hk⟩
theorem IntBlk.of_own {w : World} {base g n : Nat} {L : List Int} (h : w.ownsRow base 3 1 (.slice (some ⟨g, 0, none⟩) n n) n (L.map (Value.int .i64))) : IntBlk w g L := by
  rcases h.2 with ⟨h0, _⟩ | ⟨g', cap, cur, hv, hg, hh, hnc, hcm, hcs, htk⟩
  · cases h0
  · injection hv with h1 h2 h3
    injection h1 with h1
    injection h1 with h1
    subst h1; subst h3
    unfold IntBlk
    rw [hh, ← htk, Nat.mul_one, List.take_of_length_le (by simp; omega)]
theorem below_drewN {B : Nat} {a w : World} (h : Below B a w) (n : Nat) : Below B a (w.drewN n) := ⟨h.os, h.tape, h.output, h.size, h.block⟩
theorem below_trans {w w1 w2 : World} (h1 : Below w.heap.size w w1) (h2 : Below w1.heap.size w1 w2) : Below w.heap.size w w2 := h1.trans (h2.mono h1.size)
theorem nth_set_same (cs : List Int) (j : Nat) (x : Int) (h : j < cs.length) : nth (cs.set j x) j = x := by
  rw [nth_eq (by simpa using h)]; simp
theorem nth_set_other (cs : List Int) (j k : Nat) (x : Int) (h : j ≠ k) : nth (cs.set j x) k = nth cs k := by
  simp [nth, List.getD_eq_getElem?_getD, h]
theorem nth_replicate (n k : Nat) : nth (List.replicate n 0) k = 0 := by
  simp only [nth, List.getD_eq_getElem?_getD, List.getElem?_replicate]; split <;> rfl
theorem list_ext_nth {L M : List Int} (hl : L.length = M.length) (h : ∀ k, k < L.length → nth L k = nth M k) : L = M := by
  refine List.ext_getElem hl fun k h1 h2 => ?_
  rw [← nth_eq h1, ← nth_eq h2]; exact h k h1

/-- make of n numbers. -/
theorem make_ints {ops : Array Oper} {rest : List Oper} {o : Oper} {a : Act} {Q : Exit → Act → World → Prop} (hg : o.guard = none) (l c : Operand) (hop : o.op = Op.makeSlice 27 l c)
    {w : World} {m : Int} (n : Nat) (hl : a.eval l = .int .i64 m) (hc : a.eval c = .int .i64 m) (hm : m = (n : Int)) (hn : n ≤ 1099511627776)
    (hK : ∀ w', IntBlk w' w.heap.size (List.replicate n 0) → Below w.heap.size w w' → wpList Try.prog ops Q rest (a.put o.dst (.slice (some ⟨w.heap.size, 0, none⟩) n n)) w') :
    wpList Try.prog ops Q (o :: rest) a w := by
  obtain ⟨i0, hi, hz0, hz1, hz2⟩ := info_parts info_int
  refine wpList_make_full w hg l c 27 hop w.heap.size 3 i0 _ 1 Try.underlying27 hi hz0 hz1 .i64 .i64 m m n hl hc hm hm (by rw [hz2]; omega) (by simp only [maxLen]; omega) (Nat.le_refl _) ?_
  intro w' hown hgr
  refine hK w' ?_ ⟨hgr.os, hgr.tape, hgr.output, hgr.size, fun k hk => hgr.block k hk (by simp)⟩
  rw [Nat.mul_one, show (Value.int .i64 0).cells = #[Value.int .i64 0] from rfl, toList_madeCells_one, ← List.map_replicate] at hown
  exact IntBlk.of_own hown

theorem ret_pure {P : Program} {f : FuncId} {args : Array Value} {w : World} {v : Value} {R : Ending → World → Prop} (h : Calls P f args w (Ret v w)) (hr : R (.returned v) w) : Calls P f args w R :=
  h.mono (by rintro e w1 ⟨rfl, rfl⟩; exact hr)
theorem ret_below {P : Program} {f : FuncId} {args : Array Value} {w : World} {v : Value} {R : Ending → World → Prop} (h : Calls P f args w (RetB v w)) (hr : ∀ w', Below w.heap.size w w' → R (.returned v) w') : Calls P f args w R :=
  h.mono (by rintro e w1 ⟨rfl, hb⟩; exact hr w1 hb)

/-! ### Dice -/
theorem dice_of_below {w w' : World} {D : Nat} {R : List Int} (h : DiceAt w D R) (hb : Below w.heap.size w w') : DiceAt w' D R := h.below hb
/-- A slice stands while dice are thrown, if it does not lie in the dice. -/
theorem IntsAt.grown {w w' : World} {A : Option Addr} {L : List Int} {D : Nat} (h : IntsAt w A L) (hg : w.grownBy w' (some D)) (hD : ∀ b off, A = some ⟨b, off, none⟩ → b ≠ D) : IntsAt w' A L := fun k hk => by
  obtain ⟨b, off, hA, hlt, hc⟩ := h k hk
  exact ⟨b, off, hA, Nat.lt_of_lt_of_le hlt hg.size, (World.cell?_of_block (w := w) (hg.block b hlt (by intro e; injection e with e; exact hD b off hA e))).trans hc⟩
theorem grown_cell {w w' : World} {D : Nat} (hg : w.grownBy w' (some D)) (b o : Nat) (hb : b < w.heap.size) (hne : b ≠ D) : w'.cell? ⟨b, o, none⟩ = w.cell? ⟨b, o, none⟩ :=
  World.cell?_of_block (w := w) (hg.block b hb (by intro e; injection e with e; exact hne e))
theorem grown_below {w w' : World} {D B : Nat} (hg : w.grownBy w' (some D)) (hB : B ≤ D) (hBs : B ≤ w.heap.size) : Below B w w' :=
  ⟨hg.os, hg.tape, hg.output, hg.size, fun k hk => hg.block k (by omega) (by intro e; injection e with e; omega)⟩
theorem grown_of_below {w w' : World} {r : Option Nat} (h : Below w.heap.size w w') : w.grownBy w' r := ⟨h.os, h.tape, h.output, h.size, fun k hk _ => h.block k hk⟩
theorem grown_trans {w w1 w2 : World} {r : Option Nat} (h1 : w.grownBy w1 r) (h2 : w1.grownBy w2 r) : w.grownBy w2 r :=
  ⟨h2.os.trans h1.os, h2.tape.trans h1.tape, h2.output.trans h1.output, Nat.le_trans h1.size h2.size, fun k hk hne => (h2.block k (Nat.lt_of_lt_of_le hk h1.size) hne).trans (h1.block k hk hne)⟩
theorem lit_ints (w : World) (L : List Int) : IntsAt (w.alloc (.cells (L.map (Value.int .i64)).toArray 3)) (some ⟨w.heap.size, 0, none⟩) L :=
  IntBlk.ints (heap_alloc_new w _)
theorem below_alloc (w : World) (o : Obj) : Below w.heap.size w (w.alloc o) := (Below.refl _ _).alloc (Nat.le_refl _) _
theorem DiceAt.alloc {w : World} {D : Nat} {R : List Int} (h : DiceAt w D R) (o : Obj) : DiceAt (w.alloc o) D R := h.below (below_alloc w o)

end Go.Proofs.Ytmnkgfimdlhhiaa
namespace Go.Proofs.Ytmnkgfimdlhhiaa
open Go.RowKit

theorem info_spend : (Try.prog.info? 33).map (fun i => (i.zero, i.size, i.bytes)) = some (some (.agg #[.int .i64 0, .int .i64 0]), 2, 16) := by kernel_rfl

abbrev Spd := Int × Int
def tS (S : List Spd) (k : Nat) : Int := (S.getD k (0, 0)).1
def cS (S : List Spd) (k : Nat) : Int := (S.getD k (0, 0)).2
/-- The address A leads to the spends S. -/
def SpAt (w : World) (A : Option Addr) (S : List Spd) : Prop :=
  ∀ k, k < S.length → ∃ b off, A = some ⟨b, off, none⟩ ∧ b < w.heap.size ∧ w.cell? ⟨b, off + k * 2, none⟩ = some (.int .i64 (tS S k)) ∧ w.cell? ⟨b, off + k * 2 + 1, none⟩ = some (.int .i64 (cS S k))
theorem SpAt.nil (w : World) (A : Option Addr) : SpAt w A [] := fun k h => absurd h (by simp)
theorem SpAt.below {w w' : World} {A : Option Addr} {S : List Spd} (h : SpAt w A S) (hb : Below w.heap.size w w') : SpAt w' A S := fun k hk => by
  obtain ⟨b, off, hA, hlt, hc, hd⟩ := h k hk
  exact ⟨b, off, hA, Nat.lt_of_lt_of_le hlt hb.size, (hb.cell hlt).trans hc, (hb.cell hlt).trans hd⟩
theorem SpAt.grown {w w' : World} {A : Option Addr} {S : List Spd} {D : Nat} (h : SpAt w A S) (hg : w.grownBy w' (some D)) (hD : ∀ b off, A = some ⟨b, off, none⟩ → b ≠ D) : SpAt w' A S := fun k hk => by
  obtain ⟨b, off, hA, hlt, hc, hd⟩ := h k hk
  exact ⟨b, off, hA, Nat.lt_of_lt_of_le hlt hg.size, (grown_cell hg b _ hlt (hD b off hA)).trans hc, (grown_cell hg b _ hlt (hD b off hA)).trans hd⟩

def inI (n lo hi : Int) : Bool := decide (lo ≤ n ∧ n ≤ hi)
theorem inI_lo {n lo hi : Int} (h : ¬ lo ≤ n) : false = inI n lo hi := by unfold inI; exact (decide_eq_false (fun h1 => h h1.1)).symm
theorem inI_hi {n lo hi : Int} (h : lo ≤ n) : decide (n ≤ hi) = inI n lo hi := by unfold inI; simp [h]
theorem in_any (n lo hi : Int) (w : World) :
    Calls Try.prog 49 #[.int .i64 n, .int .i64 lo, .int .i64 hi] w (Ret (.bool (inI n lo hi)) w) := by
  by_cases h : lo ≤ n
  · have HV := Lib.hid (inI_hi (hi := hi) h)
    go_enter Try.func49, Try.ntmps49
    go_wp2_with fail
    go_ret
    exact Ret.bool HV.out
  · have HV := Lib.hid (inI_lo (hi := hi) h)
    go_enter Try.func49, Try.ntmps49
    go_wp2_with fail
    go_ret
    exact Ret.bool HV.out
theorem in_yes (n lo hi : Int) (h : lo ≤ n ∧ n ≤ hi) (w : World) :
    Calls Try.prog 49 #[.int .i64 n, .int .i64 lo, .int .i64 hi] w (Ret (.bool true) w) := by
  have := in_any n lo hi w
  rwa [show inI n lo hi = true from decide_eq_true h] at this
theorem in_no (n lo hi : Int) (h : ¬ (lo ≤ n ∧ n ≤ hi)) (w : World) :
    Calls Try.prog 49 #[.int .i64 n, .int .i64 lo, .int .i64 hi] w (Ret (.bool false) w) := by
  have := in_any n lo hi w
  rwa [show inI n lo hi = false from decide_eq_false h] at this

/-! ### The tests that a budget's sums are made with -/
/-- A budget in a cell: its fields. -/
def BudCell (w : World) (x : Nat) (P A : Int) (v : Value) : Prop :=
  w.heap[x]? = some (.cells #[.int .i64 P, .int .i64 A, v] 24 (0, 0))
theorem BudCell.c0 {w : World} {x : Nat} {P A : Int} {v : Value} (h : BudCell w x P A v) : w.cell? ⟨x, 0, none⟩ = some (.int .i64 P) := by
  rw [cell_of_row w x 0 _ _ (0, 0) h]; rfl
theorem BudCell.c1 {w : World} {x : Nat} {P A : Int} {v : Value} (h : BudCell w x P A v) : w.cell? ⟨x, 1, none⟩ = some (.int .i64 A) := by
  rw [cell_of_row w x 1 _ _ (0, 0) h]; rfl
theorem BudCell.c2 {w : World} {x : Nat} {P A : Int} {v : Value} (h : BudCell w x P A v) : w.cell? ⟨x, 2, none⟩ = some v := by
  rw [cell_of_row w x 2 _ _ (0, 0) h]; rfl
theorem blk_lt {w : World} {x : Nat} {o : Obj} (h : w.heap[x]? = some o) : x < w.heap.size := by
  rcases Nat.lt_or_ge x w.heap.size with hlt | hge
  · exact hlt
  · rw [Array.getElem?_eq_none hge] at h; cases h
theorem BudCell.below {w w' : World} {x : Nat} {P A : Int} {v : Value} (h : BudCell w x P A v) (hb : Below w.heap.size w w') : BudCell w' x P A v := (hb.block x (blk_lt h)).trans h
def IntCell (w : World) (y : Nat) (n : Int) : Prop := w.heap[y]? = some (.cells #[.int .i64 n] 3 (0, 0))
theorem IntCell.c0 {w : World} {y : Nat} {n : Int} (h : IntCell w y n) : w.cell? ⟨y, 0, none⟩ = some (.int .i64 n) := by
  rw [cell_of_row w y 0 _ _ (0, 0) h]; rfl
theorem IntCell.below {w w' : World} {x : Nat} {n : Int} (h : IntCell w x n) (hb : Below w.heap.size w w') : IntCell w' x n := (hb.block x (blk_lt h)).trans h
theorem IntCell.new {w : World} {i : Nat} (n : Int) (h : i = w.heap.size) : IntCell (w.alloc (.cells #[.int .i64 n] 3)) i n := by subst h; exact heap_alloc_new w _
theorem BudCell.new {w : World} {i : Nat} (P A : Int) (v : Value) (h : i = w.heap.size) : BudCell (w.alloc (.cells #[.int .i64 P, .int .i64 A, v] 24)) i P A v := by subst h; exact heap_alloc_new w _
theorem IntCell.alloc {w : World} {i : Nat} {n : Int} (h : IntCell w i n) (o : Obj) : IntCell (w.alloc o) i n := h.below (below_alloc w o)
theorem BudCell.alloc {w : World} {i : Nat} {P A : Int} {v : Value} (h : BudCell w i P A v) (o : Obj) : BudCell (w.alloc o) i P A v := h.below (below_alloc w o)
theorem SpAt.alloc {w : World} {A : Option Addr} {S : List Spd} (h : SpAt w A S) (o : Obj) : SpAt (w.alloc o) A S := h.below (below_alloc w o)
theorem SpAt.drewN {w : World} {A : Option Addr} {S : List Spd} (h : SpAt w A S) (n : Nat) : SpAt (w.drewN n) A S := h
theorem pair_cells (w : World) (t c : Int) : (w.alloc (.cells #[.int .i64 t, .int .i64 c] 33)).cell? ⟨w.heap.size, 0, none⟩ = some (.int .i64 t) ∧ (w.alloc (.cells #[.int .i64 t, .int .i64 c] 33)).cell? ⟨w.heap.size, 1, none⟩ = some (.int .i64 c) := by
  have h := heap_alloc_new w (.cells #[.int .i64 t, .int .i64 c] 33)
  constructor
  · rw [cell_of_row _ _ 0 _ _ (0, 0) h]; rfl
  · rw [cell_of_row _ _ 1 _ _ (0, 0) h]; rfl

theorem beq_dec (a b : Int) : (a == b) = decide (a = b) := by
  by_cases h : a = b
  · subst h; simp
  · simp [h]
set_option maxHeartbeats 400000 in
theorem leftT_any (x y : Nat) (P A : Int) (v : Value) (t c time : Int) (w : World) (hP : 1 ≤ P ∧ P ≤ 1099511627776) (hx : BudCell w x P A v) (hy : IntCell w y time) (h1 : 0 ≤ t ∧ t ≤ 1099511627776) (h2 : 0 ≤ time ∧ time ≤ 2199023255552) :
    Calls Try.prog 51 #[.agg #[.int .i64 t, .int .i64 c], .pointer (some ⟨x, 0, none⟩), .pointer (some ⟨y, 0, none⟩)] w (RetB (.bool (decide (t / P = time / P))) w) := by
  obtain ⟨p1, p2⟩ := hP
  obtain ⟨t1, t2⟩ := h1
  obtain ⟨m1, m2⟩ := h2
  have q1 : t.tdiv P = t / P := Int.tdiv_eq_ediv_of_nonneg t1
  have q2 : time.tdiv P = time / P := Int.tdiv_eq_ediv_of_nonneg m1
  have z1 : ¬ P = 0 := by omega
  have z2 : (P == 0) = false := by simp; omega
  have b1 := Int.ediv_nonneg t1 (show 0 ≤ P by omega)
  have b2 := Int.ediv_le_self P t1
  have b3 := Int.ediv_nonneg m1 (show 0 ≤ P by omega)
  have b4 := Int.ediv_le_self P m1
  have v1 : IntKind.i64.wrap (t / P) = t / P := IntWalk.i64_in _ (by omega)
  have v2 : IntKind.i64.wrap (time / P) = time / P := IntWalk.i64_in _ (by omega)
  have HX := Lib.hid hx
  have HY := Lib.hid hy
  clear hx hy
  go_enter Try.func51, Try.ntmps51
  go_wp2_with fail
  refine gen_world fun w1 hw1 => ?_
  have hb : Below w.heap.size w w1 := by rw [hw1]; exact below_alloc _ _
  obtain ⟨e0, e1⟩ : w1.cell? ⟨w.heap.size, 0, none⟩ = some (.int .i64 t) ∧ w1.cell? ⟨w.heap.size, 1, none⟩ = some (.int .i64 c) := by rw [hw1]; exact pair_cells w t c
  have ex := (HX.out.below hb).c0
  have ey := (HY.out.below hb).c0
  clear hw1
  go_quiet (fail)
  go_wp2
  go_ret
  exact RetB.bool (beq_dec _ _) (below_drewN hb _)

set_option maxHeartbeats 400000 in
theorem totT_any (x y : Nat) (t c from_ to_ : Int) (w : World) (hx : IntCell w x from_) (hy : IntCell w y to_) :
    Calls Try.prog 54 #[.agg #[.int .i64 t, .int .i64 c], .pointer (some ⟨x, 0, none⟩), .pointer (some ⟨y, 0, none⟩)] w (RetB (.bool (inI t from_ to_)) w) := by
  have ex := hx.c0
  have ey := hy.c0
  have lx := blk_lt hx
  have ly := blk_lt hy
  clear hx hy
  by_cases h : from_ ≤ t
  · have HV := Lib.hid (inI_hi (hi := to_) h)
    go_enter Try.func54, Try.ntmps54
    go_wp2
    go_ret
    exact RetB.bool HV.out (below_alloc _ _)
  · have HV := Lib.hid (inI_lo (hi := to_) h)
    go_enter Try.func54, Try.ntmps54
    go_wp2
    go_ret
    exact RetB.bool HV.out (below_alloc _ _)

/-! ### Sums -/
def addT (T : Spd → Bool) (x : Spd) : Int := if T x then x.2 else 0
theorem addT_yes {T : Spd → Bool} {x : Spd} (h : T x = true) : addT T x = x.2 := by unfold addT; rw [if_pos h]
theorem addT_no {T : Spd → Bool} {x : Spd} (h : T x = false) : addT T x = 0 := by unfold addT; rw [h]; rfl
def sumK (T : Spd → Bool) (S : List Spd) : Nat → Int
  | 0 => 0
  | k + 1 => sumK T S k + addT T (S.getD k (0, 0))
theorem sumK_succ (T : Spd → Bool) (S : List Spd) (k : Nat) : sumK T S (k + 1) = sumK T S k + addT T (S.getD k (0, 0)) := rfl
def sumT (T : Spd → Bool) (S : List Spd) : Int := sumK T S S.length
/-- The costs are small. -/
def Cheap (S : List Spd) : Prop := ∀ k, k < S.length → 0 ≤ cS S k ∧ cS S k ≤ 1073741824
theorem sumK_range {S : List Spd} (h : Cheap S) (T : Spd → Bool) : ∀ k, k ≤ S.length → 0 ≤ sumK T S k ∧ sumK T S k ≤ 1073741824 * k
  | 0, _ => by simp [sumK]
  | k + 1, hk => by
    have ih := sumK_range h T k (by omega)
    obtain ⟨c1, c2⟩ := h k (by omega)
    rw [sumK_succ]
    have : 0 ≤ addT T (S.getD k (0, 0)) ∧ addT T (S.getD k (0, 0)) ≤ 1073741824 := by
      unfold addT; split
      · exact ⟨c1, c2⟩
      · omega
    push_cast; omega

set_option maxHeartbeats 1000000 in
theorem cost_any (n : Nat) (u1 u2 : Value) (T : Spd → Bool) (P A : Int) (B : Option Addr) (S : List Spd) (cap : Nat) (w : World) (hS : SpAt w B S) (hc : Cheap S) (hl : S.length ≤ 100000) (hn : ∀ args w, (callFunc n args).run Try.prog w = .ok (.enter n args) w)
    (hT : ∀ w', Below w.heap.size w w' → ∀ k, k < S.length → Calls Try.prog n #[.agg #[.int .i64 (tS S k), .int .i64 (cS S k)], u1, u2] w' (RetB (.bool (T (S.getD k (0, 0)))) w')) :
    Calls Try.prog 50 #[.agg #[.int .i64 P, .int .i64 A, .slice B S.length cap], .func (.func n) #[] #[u1, u2]] w (RetB (.int .i64 (sumT T S)) w) := by
  have HS := Lib.hid hS
  have HT := Lib.hid hT
  have HC := Lib.hid hc
  have HR := Lib.hid (fun k hk => sumK_range hc T k hk)
  clear hS hT hc
  go_enter Try.func50, Try.ntmps50
  go_wp2_with fail
  refine gen_world fun w1 hw1 => ?_
  have hb : Below w.heap.size w w1 := by rw [hw1]; exact below_alloc _ _
  clear hw1
  go_loopw [11, 5] (fun i s wr => ∃ k : Nat, k ≤ S.length ∧ i = .int .i64 k ∧ s = .int .i64 (sumK T S k) ∧ Below w.heap.size w wr) (fun i _ _ => S.length - (intOf i).toNat)
  case atStart => exact ⟨0, Nat.zero_le _, rfl, rfl, hb⟩
  case round =>
    obtain ⟨k, hk, rfl, rfl, hbr⟩ := hrel
    have hr := HR.out k hk
    by_cases hlt : k < S.length
    · have HC1 := Lib.hid (HC.out k hlt)
      obtain ⟨b, off, rfl, hbl, c1, c2⟩ := HS.out k hlt
      have d1 := (hbr.cell hbl).trans c1
      have d2 := (hbr.cell hbl).trans c2
      have hbs := hbr.size
      clear c1 c2
      go_wp2_with fail
      refine ret_below (HT.out _ (hbr.trans ((below_alloc _ _).mono hbs)) k hlt) fun w2 hb2 => ?_
      generalize hx : T (S.getD k (0, 0)) = tv at *
      have HX := Lib.hid hx
      clear hx
      have hsz := hb2.size
      simp at hsz
      have d3 : w2.cell? ⟨wr.heap.size, 1, none⟩ = some (.int .i64 (cS S k)) := (hb2.cell (p := ⟨wr.heap.size, 1, none⟩) (by simp)).trans (pair_cells wr (tS S k) (cS S k)).2
      have hbw : Below w.heap.size w w2 := (hbr.trans ((below_alloc _ _).mono hbs)).trans (hb2.mono (by simp; omega))
      cases tv with
      | true =>
        have hs := HC1.out
        have hw : IntKind.i64.wrap (sumK T S k + cS S k) = sumK T S k + cS S k := IntWalk.i64_in _ (by omega)
        go_wp2_with fail
        go_roundw
        case rel => exact ⟨k + 1, by omega, by go_num, by rw [sumK_succ, addT_yes HX.out]; rfl, hbw⟩
        case measure => simp [intOf]; omega
      | false =>
        go_wp2_with fail
        go_roundw
        case rel => exact ⟨k + 1, by omega, by go_num, by rw [sumK_succ, addT_no HX.out, Int.add_zero], hbw⟩
        case measure => simp [intOf]; omega
    · go_wp2_with fail
      go_ret
      refine RetB.int ?_ hbr
      rw [show k = S.length by omega]; rfl
end Go.Proofs.Ytmnkgfimdlhhiaa
namespace Go.Proofs.Ytmnkgfimdlhhiaa
open Go.RowKit

theorem hmf (fn : Fn) (first cap : Array Value) (w : World) : (Instr.makeFunc fn first cap).run Try.prog w = .ok (.func fn first cap) w := rfl
theorem enter_left (args : Array Value) (w : World) : (callFunc 51 args).run Try.prog w = .ok (.enter 51 args) w :=
  MuLone.run_callFunc_enter Try.func51 (by kernel_rfl) rfl args w
theorem enter_total (args : Array Value) (w : World) : (callFunc 54 args).run Try.prog w = .ok (.enter 54 args) w :=
  MuLone.run_callFunc_enter Try.func54 (by kernel_rfl) rfl args w

def Times (S : List Spd) : Prop := ∀ k, k < S.length → 0 ≤ tS S k ∧ tS S k ≤ 1099511627776
def perT (P time : Int) (x : Spd) : Bool := decide (x.1 / P = time / P)
def used (P : Int) (S : List Spd) (time : Int) : Int := sumT (perT P time) S
def leftV (P A : Int) (S : List Spd) (time : Int) : Int := if time < 0 then 0 else A - used P S time
theorem leftV_neg {P A : Int} {S : List Spd} {time : Int} (h : time < 0) : leftV P A S time = 0 := if_pos h
theorem leftV_pos {P A : Int} {S : List Spd} {time : Int} (h : ¬ time < 0) : leftV P A S time = A - used P S time := if_neg h
def spanT (a b : Int) (x : Spd) : Bool := inI x.1 a b
def totV (S : List Spd) (a b : Int) : Int := sumT (spanT a b) S

theorem tS_eq (S : List Spd) (k : Nat) : (S.getD k (0, 0)).1 = tS S k := rfl
theorem cost_left (x y : Nat) (P A time : Int) (v : Value) (P' A' : Int) (B : Option Addr) (S : List Spd) (cap : Nat) (w : World) (hP : 1 ≤ P ∧ P ≤ 1099511627776) (hX : BudCell w x P A v) (hY : IntCell w y time) (hS : SpAt w B S) (hT : Times S) (hC : Cheap S) (hl : S.length ≤ 100000) (ht : 0 ≤ time ∧ time ≤ 2199023255552) :
    Calls Try.prog 50 #[.agg #[.int .i64 P', .int .i64 A', .slice B S.length cap], .func (.func 51) #[] #[.pointer (some ⟨x, 0, none⟩), .pointer (some ⟨y, 0, none⟩)]] w (RetB (.int .i64 (used P S time)) w) :=
  cost_any 51 _ _ (perT P time) P' A' B S cap w hS hC hl enter_left fun w' hb k hk => leftT_any x y P A v (tS S k) (cS S k) time w' hP (hX.below hb) (hY.below hb) (hT k hk) ht
theorem cost_total (x y : Nat) (a b : Int) (P' A' : Int) (B : Option Addr) (S : List Spd) (cap : Nat) (w : World) (hX : IntCell w x a) (hY : IntCell w y b) (hS : SpAt w B S) (hC : Cheap S) (hl : S.length ≤ 100000) :
    Calls Try.prog 50 #[.agg #[.int .i64 P', .int .i64 A', .slice B S.length cap], .func (.func 54) #[] #[.pointer (some ⟨x, 0, none⟩), .pointer (some ⟨y, 0, none⟩)]] w (RetB (.int .i64 (totV S a b)) w) :=
  cost_any 54 _ _ (spanT a b) P' A' B S cap w hS hC hl enter_total fun w' hb k _ => totT_any x y (tS S k) (cS S k) a b w' (hX.below hb) (hY.below hb)

set_option maxHeartbeats 1000000 in
theorem left_any (P A : Int) (B : Option Addr) (S : List Spd) (cap : Nat) (time : Int) (w : World) (hP : 1 ≤ P ∧ P ≤ 1099511627776) (hA : 0 ≤ A ∧ A ≤ 1073741824) (hS : SpAt w B S) (hT : Times S) (hC : Cheap S) (hl : S.length ≤ 100000) (ht : time ≤ 2199023255552) :
    Calls Try.prog 20 #[.agg #[.int .i64 P, .int .i64 A, .slice B S.length cap], .int .i64 time] w (RetB (.int .i64 (leftV P A S time)) w) := by
  by_cases h0 : time < 0
  · have HV := Lib.hid (leftV_neg (P := P) (A := A) (S := S) h0)
    go_enter Try.func20, Try.ntmps20
    go_wp2
    go_ret
    exact RetB.int HV.out.symm ((below_alloc _ _).alloc (by simp) _)
  · have HV := Lib.hid (leftV_pos (P := P) (A := A) (S := S) h0)
    have HS := Lib.hid hS
    have HT := Lib.hid hT
    have HC := Lib.hid hC
    have hr := sumK_range hC (perT P time) S.length (Nat.le_refl _)
    rw [show sumK (perT P time) S S.length = used P S time from rfl] at hr
    have hP0 := hP
    obtain ⟨p1, p2⟩ := hP
    obtain ⟨a1, a2⟩ := hA
    clear hS hT hC
    have hmf' := hmf
    go_enter Try.func20, Try.ntmps20
    go_wp2_with fail
    refine gen_world fun w1 hw1 => ?_
    have hb : Below w.heap.size w w1 := by rw [hw1]; exact (below_alloc _ _).alloc (by simp) _
    have hs := hb.size
    have HX : BudCell w1 w.heap.size P A (.slice B S.length cap) := by
      rw [hw1]; exact (heap_alloc_old _ _ (by simp)).trans (heap_alloc_new w _)
    have HY : IntCell w1 (w.heap.size + 1) time := by
      rw [hw1]; exact IntCell.new _ (by simp)
    have hx0 := HX.c0
    have hx1 := HX.c1
    have hx2 := HX.c2
    have HX := Lib.hid HX
    have HY := Lib.hid HY
    have hlt : w.heap.size < w1.heap.size := blk_lt HX.out
    clear hw1
    refine wp_region_grew (by kernel_rfl) (by kernel_rfl) ?_
    repeat (go_big_quiet_step ((first
      | (go_at_call 50; exact grew_of (cost_left _ _ P A time _ P A B S cap _ hP0 (HX.out.below (grewW.below _ _)) (HY.out.below (grewW.below _ _)) ((HS.out.below hb).below (grewW.below _ _)) HT.out HC.out hl ⟨h0, ht⟩)))))
    refine wpQuiet_nil ?_
    intro w2 hb2
    go_wp2
    go_ret
    refine RetB.int HV.out.symm (hb.trans (hb2.mono hs))

set_option maxHeartbeats 1000000 in
theorem total_any (P A : Int) (B : Option Addr) (S : List Spd) (cap : Nat) (from_ to_ : Int) (w : World) (hS : SpAt w B S) (hC : Cheap S) (hl : S.length ≤ 100000) :
    Calls Try.prog 23 #[.agg #[.int .i64 P, .int .i64 A, .slice B S.length cap], .int .i64 from_, .int .i64 to_] w (RetB (.int .i64 (totV S from_ to_)) w) := by
  have HS := Lib.hid hS
  have HC := Lib.hid hC
  clear hS hC
  have hmf' := hmf
  go_enter Try.func23, Try.ntmps23
  go_wp2_with fail
  refine ret_below (cost_total _ _ from_ to_ P A B S cap _ ((IntCell.new _ (by simp)).alloc _) (IntCell.new _ (by simp)) (((HS.out.alloc _).alloc _).alloc _) HC.out hl) fun w2 hb2 => ?_
  have hb : Below w.heap.size w w2 := (((below_alloc _ _).alloc (by simp) _).alloc (by simp; omega) _).trans (hb2.mono (by simp; omega))
  go_wp2
  go_ret
  exact RetB.int rfl hb

/-! ### The document's -/
theorem sumK_span_yes {S : List Spd} {k : Nat} {a b : Int} (h : a ≤ tS S k ∧ tS S k ≤ b) : sumK (spanT a b) S (k + 1) = sumK (spanT a b) S k + cS S k := by
  rw [sumK_succ, addT_yes]; rfl
  show inI (tS S k) a b = true
  unfold inI; exact decide_eq_true h
theorem sumK_span_no {S : List Spd} {k : Nat} {a b : Int} (h : ¬ (a ≤ tS S k ∧ tS S k ≤ b)) : sumK (spanT a b) S (k + 1) = sumK (spanT a b) S k := by
  rw [sumK_succ, addT_no, Int.add_zero]
  show inI (tS S k) a b = false
  unfold inI; exact decide_eq_false h
set_option maxHeartbeats 1000000 in
theorem refTotal_any (P A : Int) (B : Option Addr) (S : List Spd) (cap : Nat) (from_ to_ : Int) (w : World) (hS : SpAt w B S) (hC : Cheap S) (hl : S.length ≤ 100000) :
    Calls Try.prog 46 #[.agg #[.int .i64 P, .int .i64 A, .slice B S.length cap], .int .i64 from_, .int .i64 to_] w (RetB (.int .i64 (totV S from_ to_)) w) := by
  have HS := Lib.hid hS
  have HC := Lib.hid hC
  have HR := Lib.hid (fun k hk => sumK_range hC (spanT from_ to_) k hk)
  clear hS hC
  go_enter Try.func46, Try.ntmps46
  go_wp2_with fail
  refine gen_world fun w1 hw1 => ?_
  have hb : Below w.heap.size w w1 := by rw [hw1]; exact below_alloc _ _
  have HX : BudCell w1 w.heap.size P A (.slice B S.length cap) := by rw [hw1]; exact BudCell.new _ _ _ rfl
  have hx2 := HX.c2
  have HS1 := Lib.hid (HS.out.below hb)
  clear hw1 HX HS
  go_loopw [8, 7] (fun i s wr => ∃ k : Nat, k ≤ S.length ∧ i = .int .i64 k ∧ s = .int .i64 (sumK (spanT from_ to_) S k) ∧ wr = w1) (fun i _ _ => S.length - (intOf i).toNat)
  case atStart => exact ⟨0, Nat.zero_le _, rfl, rfl, rfl⟩
  case round =>
    obtain ⟨k, hk, rfl, rfl, rfl⟩ := hrel
    by_cases hlt : k < S.length
    · have hr := HR.out k hk
      have HC1 := HC.out k hlt
      obtain ⟨b, off, rfl, hbl, c1, c2⟩ := HS1.out k hlt
      have hw : IntKind.i64.wrap (sumK (spanT from_ to_) S k + cS S k) = sumK (spanT from_ to_) S k + cS S k := IntWalk.i64_in _ (by omega)
      by_cases h1 : from_ ≤ tS S k
      · by_cases h2 : tS S k ≤ to_
        · have HV := Lib.hid (sumK_span_yes (S := S) (k := k) ⟨h1, h2⟩)
          go_wp2_with fail
          go_roundw
          case rel => exact ⟨k + 1, by omega, by go_num, by rw [HV.out], trivial⟩
          case measure => simp [intOf]; omega
        · have HV := Lib.hid (sumK_span_no (S := S) (k := k) (a := from_) (b := to_) (fun h => h2 h.2))
          go_wp2_with fail
          go_roundw
          case rel => exact ⟨k + 1, by omega, by go_num, by rw [HV.out], trivial⟩
          case measure => simp [intOf]; omega
      · have HV := Lib.hid (sumK_span_no (S := S) (k := k) (a := from_) (b := to_) (fun h => h1 h.1))
        go_wp2_with fail
        go_roundw
        case rel => exact ⟨k + 1, by omega, by go_num, by rw [HV.out], trivial⟩
        case measure => simp [intOf]; omega
    · go_wp2_with fail
      go_ret
      refine RetB.int ?_ hb
      rw [show k = S.length by omega]; rfl
end Go.Proofs.Ytmnkgfimdlhhiaa
namespace Go.Proofs.Ytmnkgfimdlhhiaa
open Go.RowKit

/-! ### What a good budget is -/
def RowOK (S : List Spd) (k : Nat) : Prop := 0 ≤ tS S k ∧ tS S k ≤ 1099511627776 ∧ (0 < k → tS S (k - 1) ≤ tS S k) ∧ 1 ≤ cS S k ∧ cS S k ≤ 1073741824
def HeadOK (P A : Int) (S : List Spd) : Prop := 1 ≤ P ∧ P ≤ 1099511627776 ∧ 0 ≤ A ∧ A ≤ 1073741824 ∧ S.length ≤ 256
def BudOK (P A : Int) (S : List Spd) : Prop := HeadOK P A S ∧ (∀ k, k < S.length → RowOK S k) ∧ ∀ k, k < S.length → used P S (tS S k) ≤ A
noncomputable def budE (P A : Int) (S : List Spd) : Int := @ite _ (BudOK P A S) (Classical.propDecidable _) 0 56
theorem budE_ok {P A : Int} {S : List Spd} (h : BudOK P A S) : budE P A S = 0 := @if_pos _ (Classical.propDecidable _) h _ _ _
theorem budE_bad {P A : Int} {S : List Spd} (h : ¬ BudOK P A S) : 56 = budE P A S := (@if_neg _ (Classical.propDecidable _) h _ _ _).symm
theorem budE_head {P A : Int} {S : List Spd} (h : ¬ HeadOK P A S) : 56 = budE P A S := budE_bad fun hb => h hb.1
theorem budE_row {P A : Int} {S : List Spd} {k : Nat} (hk : k < S.length) (h : ¬ RowOK S k) : 56 = budE P A S := budE_bad fun hb => h (hb.2.1 k hk)
theorem budE_used {P A : Int} {S : List Spd} {k : Nat} (hk : k < S.length) (h : ¬ used P S (tS S k) ≤ A) : 56 = budE P A S := budE_bad fun hb => h (hb.2.2 k hk)
theorem RowOK.times {S : List Spd} (h : ∀ k, k < S.length → RowOK S k) : Times S := fun k hk => ⟨(h k hk).1, (h k hk).2.1⟩
theorem RowOK.cheap {S : List Spd} (h : ∀ k, k < S.length → RowOK S k) : Cheap S := fun k hk => ⟨by have := (h k hk).2.2.2.1; omega, (h k hk).2.2.2.2⟩

/-! ### A period is a span of times -/
theorem per_span {P t time : Int} (hP : 1 ≤ P) : t / P = time / P ↔ time / P * P ≤ t ∧ t ≤ time / P * P + P - 1 := by
  rw [Int.ediv_eq_iff_of_pos (by omega)]
  constructor <;> (rintro ⟨h1, h2⟩; constructor <;> omega)
theorem sumK_congr {T T' : Spd → Bool} {S : List Spd} (h : ∀ k, k < S.length → T (S.getD k (0, 0)) = T' (S.getD k (0, 0))) : ∀ k, k ≤ S.length → sumK T S k = sumK T' S k
  | 0, _ => rfl
  | k + 1, hk => by rw [sumK_succ, sumK_succ, sumK_congr h k (by omega)]; unfold addT; rw [h k (by omega)]
theorem used_span {P time : Int} {S : List Spd} (hP : 1 ≤ P) : totV S (time / P * P) (time / P * P + P - 1) = used P S time := by
  refine sumK_congr (fun k _ => ?_) _ (Nat.le_refl _)
  show inI _ _ _ = decide _
  unfold inI
  exact decide_eq_decide.2 (per_span hP).symm

set_option maxHeartbeats 1000000 in
theorem refUsed_any (P A : Int) (B : Option Addr) (S : List Spd) (cap : Nat) (time : Int) (w : World) (hP : 1 ≤ P ∧ P ≤ 1099511627776) (hS : SpAt w B S) (hC : Cheap S) (hl : S.length ≤ 100000) (ht : 0 ≤ time ∧ time ≤ 2199023255552) :
    Calls Try.prog 71 #[.agg #[.int .i64 P, .int .i64 A, .slice B S.length cap], .int .i64 time] w (RetB (.int .i64 (used P S time)) w) := by
  have HS := Lib.hid hS
  have HC := Lib.hid hC
  have HV := Lib.hid (used_span (time := time) (S := S) hP.1)
  obtain ⟨p1, p2⟩ := hP
  obtain ⟨m1, m2⟩ := ht
  have q2 : time.tdiv P = time / P := Int.tdiv_eq_ediv_of_nonneg m1
  have z1 : ¬ P = 0 := by omega
  have z2 : (P == 0) = false := by simp; omega
  have b3 := Int.ediv_nonneg m1 (show 0 ≤ P by omega)
  have b4 := Int.ediv_le_self P m1
  have b5 : time / P * P ≤ time := Int.ediv_mul_le time (by omega)
  have b6 : 0 ≤ time / P * P := Int.mul_nonneg b3 (by omega)
  have v2 : IntKind.i64.wrap (time / P) = time / P := IntWalk.i64_in _ (by omega)
  have v3 : IntKind.i64.wrap (time / P * P) = time / P * P := IntWalk.i64_in _ (by omega)
  have v4 : IntKind.i64.wrap (time / P * P + P) = time / P * P + P := IntWalk.i64_in _ (by omega)
  have v5 : IntKind.i64.wrap (time / P * P + P - 1) = time / P * P + P - 1 := IntWalk.i64_in _ (by omega)
  clear hS hC
  go_enter Try.func71, Try.ntmps71
  go_wp2_with fail
  refine gen_world fun w1 hw1 => ?_
  have hb : Below w.heap.size w w1 := by rw [hw1]; exact below_alloc _ _
  have HX : BudCell w1 w.heap.size P A (.slice B S.length cap) := by rw [hw1]; exact BudCell.new _ _ _ rfl
  have hx0 := HX.c0
  have hx1 := HX.c1
  have hx2 := HX.c2
  have HS1 := Lib.hid (HS.out.below hb)
  clear hw1 HX HS
  go_quiet (fail)
  go_wp2_with fail
  refine ret_below (refTotal_any P A B S cap _ _ _ (HS1.out.drewN _) HC.out hl) fun w2 hb2 => ?_
  rw [HV.out]
  go_wp2
  go_ret
  exact RetB.int rfl ((below_drewN hb _).trans (hb2.mono hb.size))

set_option maxHeartbeats 1000000 in
theorem refLeft_any (P A : Int) (B : Option Addr) (S : List Spd) (cap : Nat) (time : Int) (w : World) (hP : 1 ≤ P ∧ P ≤ 1099511627776) (hA : 0 ≤ A ∧ A ≤ 1073741824) (hS : SpAt w B S) (hC : Cheap S) (hl : S.length ≤ 100000) (ht : time ≤ 2199023255552) :
    Calls Try.prog 45 #[.agg #[.int .i64 P, .int .i64 A, .slice B S.length cap], .int .i64 time] w (RetB (.int .i64 (leftV P A S time)) w) := by
  by_cases h0 : time < 0
  · have HV := Lib.hid (leftV_neg (P := P) (A := A) (S := S) h0)
    go_enter Try.func45, Try.ntmps45
    go_wp2
    go_ret
    exact RetB.int HV.out.symm (below_alloc _ _)
  · have HV := Lib.hid (leftV_pos (P := P) (A := A) (S := S) h0)
    have HS := Lib.hid hS
    have HC := Lib.hid hC
    have hr := sumK_range hC (perT P time) S.length (Nat.le_refl _)
    rw [show sumK (perT P time) S S.length = used P S time from rfl] at hr
    have hP0 := hP
    obtain ⟨p1, p2⟩ := hP
    obtain ⟨a1, a2⟩ := hA
    clear hS hC
    go_enter Try.func45, Try.ntmps45
    go_wp2_with fail
    refine gen_world fun w1 hw1 => ?_
    have hb : Below w.heap.size w w1 := by rw [hw1]; exact below_alloc _ _
    have HX : BudCell w1 w.heap.size P A (.slice B S.length cap) := by rw [hw1]; exact BudCell.new _ _ _ rfl
    have hx0 := HX.c0
    have hx1 := HX.c1
    have hx2 := HX.c2
    have HS1 := Lib.hid (HS.out.below hb)
    have hs1 : w.heap.size < w1.heap.size := blk_lt HX
    clear hw1 HX HS
    refine wp_region_grew (by kernel_rfl) (by kernel_rfl) ?_
    repeat (go_big_quiet_step ((first
      | (go_at_call 71; exact grew_of (refUsed_any P A B S cap time _ hP0 (HS1.out.below (grewW.below _ _)) HC.out hl ⟨h0, ht⟩)))))
    refine wpQuiet_nil ?_
    intro w2 hb2
    go_wp2
    go_ret
    exact RetB.int HV.out.symm (hb.trans (hb2.mono hb.size))

set_option maxRecDepth 100000 in
set_option maxHeartbeats 4000000 in
theorem refCheck_any (P A : Int) (B : Option Addr) (S : List Spd) (cap : Nat) (w : World) (hS : SpAt w B S) (hl : S.length ≤ 100000) :
    Calls Try.prog 44 #[.agg #[.int .i64 P, .int .i64 A, .slice B S.length cap]] w (RetB (.int .i64 (budE P A S)) w) := by
  have HS := Lib.hid hS
  clear hS
  by_cases g0 : P < 1
  · have HV := Lib.hid (budE_head (P := P) (A := A) (S := S) (fun h => by have := h.1; omega))
    go_enter Try.func44, Try.ntmps44
    go_wp2
    go_ret
    exact RetB.int HV.out (below_alloc _ _)
  · skip
    by_cases g1 : 1099511627776 < P
    · have HV := Lib.hid (budE_head (P := P) (A := A) (S := S) (fun h => by have := h.2.1; omega))
      go_enter Try.func44, Try.ntmps44
      go_wp2
      go_ret
      exact RetB.int HV.out (below_alloc _ _)
    · skip
      by_cases g2 : A < 0
      · have HV := Lib.hid (budE_head (P := P) (A := A) (S := S) (fun h => by have := h.2.2.1; omega))
        go_enter Try.func44, Try.ntmps44
        go_wp2
        go_ret
        exact RetB.int HV.out (below_alloc _ _)
      · skip
        by_cases g3 : 1073741824 < A
        · have HV := Lib.hid (budE_head (P := P) (A := A) (S := S) (fun h => by have := h.2.2.2.1; omega))
          go_enter Try.func44, Try.ntmps44
          go_wp2
          go_ret
          exact RetB.int HV.out (below_alloc _ _)
        · skip
          by_cases g4 : 256 < (S.length : Int)
          · have HV := Lib.hid (budE_head (P := P) (A := A) (S := S) (fun h => by have := h.2.2.2.2; omega))
            go_enter Try.func44, Try.ntmps44
            go_wp2
            go_ret
            exact RetB.int HV.out (below_alloc _ _)
          · skip
            have HH := Lib.hid (show HeadOK P A S from ⟨by omega, by omega, by omega, by omega, by omega⟩)
            go_enter Try.func44, Try.ntmps44
            go_wp2_with fail
            refine gen_world fun w1 hw1 => ?_
            have hb : Below w.heap.size w w1 := by rw [hw1]; exact below_alloc _ _
            have HX := Lib.hid (show BudCell w1 w.heap.size P A (.slice B S.length cap) by rw [hw1]; exact BudCell.new _ _ _ rfl)
            have HS1 := Lib.hid (HS.out.below hb)
            have hs1 : w.heap.size < w1.heap.size := blk_lt HX.out
            clear hw1 HS
            go_loopw [3] (fun i wr => ∃ k : Nat, k ≤ S.length ∧ i = .int .i64 k ∧ (∀ j, j < k → RowOK S j) ∧ Below w1.heap.size w1 wr) (fun i _ => S.length - (intOf i).toNat)
            case atStart => exact ⟨0, Nat.zero_le _, rfl, fun j hj => absurd hj (by omega), Below.refl _ _⟩
            case round =>
              obtain ⟨k, hk, rfl, hpre, hbr⟩ := hrel
              have HP := Lib.hid hpre
              clear hpre
              have hx0 := (HX.out.below hbr).c0
              have hx1 := (HX.out.below hbr).c1
              have hx2 := (HX.out.below hbr).c2
              have hsr := hbr.size
              by_cases hlt : k < S.length
              · have hS2 := HS1.out.below hbr
                obtain ⟨b, off, rfl, hbl, c1, c2⟩ := hS2 k hlt
                have hprev : 0 < k → wr.cell? ⟨b, off + (k - 1) * 2, none⟩ = some (.int .i64 (tS S (k - 1))) := fun h => by
                  obtain ⟨b', off', e, _, c1', _⟩ := hS2 (k - 1) (by omega)
                  injection e with e
                  injection e with e1 e2
                  subst e1; subst e2; exact c1'
                clear hS2
                go_wp2_with fail
                refine gen_world fun w2 hw2 => ?_
                have hb2 : Below wr.heap.size wr w2 := by rw [hw2]; exact below_alloc _ _
                obtain ⟨e0, e1⟩ : w2.cell? ⟨wr.heap.size, 0, none⟩ = some (.int .i64 (tS S k)) ∧ w2.cell? ⟨wr.heap.size, 1, none⟩ = some (.int .i64 (cS S k)) := by rw [hw2]; exact pair_cells _ _ _
                have y2 := (hb2.cell (p := ⟨w.heap.size, 2, none⟩) (by simp; omega)).trans hx2
                have hprev2 : 0 < k → w2.cell? ⟨b, off + (k - 1) * 2, none⟩ = some (.int .i64 (tS S (k - 1))) := fun h => (hb2.cell (p := ⟨b, off + (k - 1) * 2, none⟩) hbl).trans (hprev h)
                have hbb := hbr.trans (hb2.mono hsr)
                clear hprev hw2 hx0 hx1 hx2 c1 c2
                have HBR := Lib.hid (fun h => budE_row (P := P) (A := A) hlt h)
                have HRO := Lib.hid (fun h1 h2 h3 h4 h5 => (show RowOK S k from ⟨h1, h2, h3, h4, h5⟩))
                have HHP := Lib.hid hprev2
                clear hprev2
                by_cases t1 : tS S k < 0
                · skip
                  have HV := Lib.hid (HBR.out (fun h => by have := h.1; omega))
                  clear HBR HRO HHP
                  go_quiet (fail)
                  go_wp2
                  go_ret
                  exact RetB.int HV.out (hb.trans ((below_drewN hbb _).mono hb.size))
                · by_cases t2 : 1099511627776 < tS S k
                  · skip
                    have HV := Lib.hid (HBR.out (fun h => by have := h.2.1; omega))
                    clear HBR HRO HHP
                    go_quiet (fail)
                    go_wp2
                    go_ret
                    exact RetB.int HV.out (hb.trans ((below_drewN hbb _).mono hb.size))
                  · rcases k with _ | j
                    · skip
                      by_cases c1 : cS S 0 < 1
                      · skip
                        have HV := Lib.hid (HBR.out (fun h => by have := h.2.2.2.1; omega))
                        clear HBR HRO HHP
                        go_quiet (fail)
                        go_wp2
                        go_ret
                        exact RetB.int HV.out (hb.trans ((below_drewN hbb _).mono hb.size))
                      · by_cases c2 : 1073741824 < cS S 0
                        · skip
                          have HV := Lib.hid (HBR.out (fun h => by have := h.2.2.2.2; omega))
                          clear HBR HRO HHP
                          go_quiet (fail)
                          go_wp2
                          go_ret
                          exact RetB.int HV.out (hb.trans ((below_drewN hbb _).mono hb.size))
                        · skip
                          have HV := Lib.hid (HRO.out (by omega) (by omega) (fun h => absurd h (by omega)) (by omega) (by omega))
                          clear HBR HRO HHP
                          go_quiet (fail)
                          go_wp2_with fail
                          go_roundw
                          case rel =>
                            refine ⟨0 + 1, by omega, by go_num, fun j' hj' => ?_, below_drewN hbb _⟩
                            by_cases hjk : j' = 0
                            · subst hjk; exact HV.out
                            · exact HP.out j' (by omega)
                          case measure => simp [intOf]; omega
                    · have hp := HHP.out (by omega)
                      rw [show j + 1 - 1 = j by omega] at hp
                      by_cases t3 : tS S (j + 1) < tS S j
                      · skip
                        have HV := Lib.hid (HBR.out (fun h => by have := h.2.2.1 (by omega); rw [show j + 1 - 1 = j by omega] at this; omega))
                        clear HBR HRO HHP
                        go_quiet (fail)
                        go_wp2
                        go_ret
                        exact RetB.int HV.out (hb.trans ((below_drewN hbb _).mono hb.size))
                      · skip
                        by_cases c1 : cS S (j + 1) < 1
                        · skip
                          have HV := Lib.hid (HBR.out (fun h => by have := h.2.2.2.1; omega))
                          clear HBR HRO HHP
                          go_quiet (fail)
                          go_wp2
                          go_ret
                          exact RetB.int HV.out (hb.trans ((below_drewN hbb _).mono hb.size))
                        · by_cases c2 : 1073741824 < cS S (j + 1)
                          · skip
                            have HV := Lib.hid (HBR.out (fun h => by have := h.2.2.2.2; omega))
                            clear HBR HRO HHP
                            go_quiet (fail)
                            go_wp2
                            go_ret
                            exact RetB.int HV.out (hb.trans ((below_drewN hbb _).mono hb.size))
                          · skip
                            have HV := Lib.hid (HRO.out (by omega) (by omega) (fun _ => by rw [show j + 1 - 1 = j by omega]; omega) (by omega) (by omega))
                            clear HBR HRO HHP
                            go_quiet (fail)
                            go_wp2_with fail
                            go_roundw
                            case rel =>
                              refine ⟨(j + 1) + 1, by omega, by go_num, fun j' hj' => ?_, below_drewN hbb _⟩
                              by_cases hjk : j' = (j + 1)
                              · subst hjk; exact HV.out
                              · exact HP.out j' (by omega)
                            case measure => simp [intOf]; omega
              · skip
                have HRW := Lib.hid (show ∀ j, j < S.length → RowOK S j from fun j hj => HP.out j (by omega))
                have HC := Lib.hid (RowOK.cheap HRW.out)
                have hs2 : w.heap.size < wr.heap.size := by omega
                have HB2 := Lib.hid (HX.out.below hbr)
                have HS2 := Lib.hid (HS1.out.below hbr)
                have hbw := hb.trans (hbr.mono hb.size)
                have hPP : 1 ≤ P ∧ P ≤ 1099511627776 := ⟨by omega, by omega⟩
                go_wp2_with fail
                clear HP HX HS1 hbr hk hlt hx0 hx1 hx2
                rename World => wo
                go_loopw [5] (fun i wr => ∃ k : Nat, k ≤ S.length ∧ i = .int .i64 k ∧ (∀ j, j < k → used P S (tS S j) ≤ A) ∧ Below wo.heap.size wo wr) (fun i _ => S.length - (intOf i).toNat)
                case atStart => exact ⟨0, Nat.zero_le _, rfl, fun j hj => absurd hj (by omega), Below.refl _ _⟩
                case round =>
                  obtain ⟨k, hk, rfl, hpre, hbr⟩ := hrel
                  have HP := Lib.hid hpre
                  clear hpre
                  have hx0 := (HB2.out.below hbr).c0
                  have hx1 := (HB2.out.below hbr).c1
                  have hx2 := (HB2.out.below hbr).c2
                  have hsr := hbr.size
                  have hs3 : w.heap.size < wr.heap.size := by omega
                  by_cases hlt : k < S.length
                  · have hS3 := HS2.out.below hbr
                    have hS3k := hS3
                    obtain ⟨b, off, rfl, hbl, c1, c2⟩ := hS3 k hlt
                    have HS3 := Lib.hid hS3k
                    have HT := Lib.hid (show 0 ≤ tS S k ∧ tS S k ≤ 2199023255552 by have := (HRW.out k hlt).1; have := (HRW.out k hlt).2.1; omega)
                    have hbq : b < wr.heap.size := by omega
                    clear hS3 hS3k
                    go_wp2_with fail
                    refine wp_region_grew (by kernel_rfl) (by kernel_rfl) ?_
                    repeat (go_big_quiet_step ((first
                      | (go_at_call 71; exact grew_of (refUsed_any P A (some ⟨b, off, none⟩) S cap (tS S k) _ hPP (HS3.out.below (grewW.below _ _)) HC.out hl HT.out)))))
                    refine wpQuiet_nil ?_
                    intro w4 hb4
                    have hbb := hbw.trans ((hbr.trans (hb4.mono hsr)).mono hbw.size)
                    by_cases hu : A < used P S (tS S k)
                    · have HV := Lib.hid (budE_used (P := P) (A := A) hlt (by omega))
                      go_wp2
                      go_ret
                      exact RetB.int HV.out hbb
                    · have HV := Lib.hid (show used P S (tS S k) ≤ A by omega)
                      go_wp2_with fail
                      go_roundw
                      case rel =>
                        refine ⟨k + 1, by omega, by go_num, fun j hj => ?_, hbr.trans (hb4.mono hsr)⟩
                        by_cases hjk : j = k
                        · subst hjk; exact HV.out
                        · exact HP.out j (by omega)
                      case measure => simp [intOf]; omega
                  · have HV := Lib.hid (budE_ok (P := P) (A := A) (S := S) ⟨HH.out, HRW.out, fun j hj => HP.out j (by omega)⟩)
                    go_wp2_with fail
                    go_ret
                    exact RetB.int HV.out.symm (hbw.trans (hbr.mono hbw.size))
            
end Go.Proofs.Ytmnkgfimdlhhiaa
namespace Go.Proofs.Ytmnkgfimdlhhiaa
open Go.RowKit Go.Maps

theorem lawI : Keyed Try.prog 3 := int_keyed Try.underlying3
theorem zeroI (w : World) : (zeroValue 3).run Try.prog w = .ok (.int .i64 0) w := by kernel_rfl
abbrev iv {H : Type} (n : Int) : DataW H := .lit (.int .i64 n)
theorem wf_i64 {n : Int} (h1 : -9223372036854775808 ≤ n) (h2 : n ≤ 9223372036854775807) : (Lit.int .i64 n).wf = true := by
  rw [← IntWalk.wrap64_in n ⟨h1, h2⟩]; exact wrap64_wf n
theorem sumK_range2 {S : List Spd} (T : Spd → Bool) : ∀ k, (∀ j, j < k → 1 ≤ cS S j ∧ cS S j ≤ 1073741824) → 0 ≤ sumK T S k ∧ sumK T S k ≤ 1073741824 * k
  | 0, _ => by simp [sumK]
  | k + 1, h => by
    have ih := sumK_range2 T k (fun j hj => h j (by omega))
    obtain ⟨c1, c2⟩ := h k (by omega)
    rw [sumK_succ]
    have : 0 ≤ addT T (S.getD k (0, 0)) ∧ addT T (S.getD k (0, 0)) ≤ 1073741824 := by
      unfold addT; split
      · exact ⟨by unfold cS at c1; omega, c2⟩
      · omega
    push_cast; omega
def perQ (P q : Int) (x : Spd) : Bool := decide (x.1 / P = q)
theorem perQ_eq (P time : Int) : perQ P (time / P) = perT P time := rfl
/-- The map after k rows. -/
structure Sums {H : Type} (P : Int) (S : List Spd) (k : Nat) (D : DataW H) : Prop where
  map : IsMap D
  at_ : ∀ q, D.atKey (.int .i64 q) (iv 0) = iv (sumK (perQ P q) S k)
  from_ : ∀ kl, has D kl = true → ∃ j, j < k ∧ kl = .int .i64 (tS S j / P)
  to_ : ∀ j, j < k → has D (.int .i64 (tS S j / P)) = true
theorem Sums.start {H : Type} (P : Int) (S : List Spd) : Sums (H := H) P S 0 (.map []) :=
  ⟨isMap_empty, fun _ => rfl, fun kl h => (by cases h), fun j hj => absurd hj (by omega)⟩
theorem Sums.step {H : Type} {P : Int} {S : List Spd} {k : Nat} {D : DataW H} (h : Sums P S k D) {c : Int} (hc : D.atKey (.int .i64 (tS S k / P)) (iv 0) = iv c) : Sums P S (k + 1) (D.put (.int .i64 (tS S k / P)) (iv (c + cS S k))) := by
  have hce : c = sumK (perQ P (tS S k / P)) S k := by
    rw [h.at_] at hc; injection hc with hc; injection hc with _ hc; exact hc.symm
  refine ⟨h.map.put _ _, fun q => ?_, fun kl hk => ?_, fun j hj => ?_⟩
  · by_cases hq : q = tS S k / P
    · subst hq
      rw [atKey_put_same h.map (show WideAt.IsKeyLit (.int .i64 _) from True.intro), sumK_succ, addT_yes (by show decide _ = true; exact decide_eq_true rfl), hce]; rfl
    · rw [atKey_put_other (fun e => hq (by injection e)), h.at_, sumK_succ, addT_no (by show decide _ = false; exact decide_eq_false (fun e => hq e.symm)), Int.add_zero]
  · by_cases hq : kl = .int .i64 (tS S k / P)
    · exact ⟨k, by omega, hq⟩
    · rw [has_put_other hq] at hk
      obtain ⟨j, h1, h2⟩ := h.from_ kl hk
      exact ⟨j, by omega, h2⟩
  · by_cases hq : (Lit.int .i64 (tS S j / P)) = .int .i64 (tS S k / P)
    · rw [hq]; exact has_put_same h.map (show WideAt.IsKeyLit (.int .i64 _) from True.intro) _
    · rw [has_put_other hq]
      rcases Nat.lt_or_ge j k with h1 | h1
      · exact h.to_ j h1
      · exact absurd (by rw [show j = k by omega]) hq

/-- The loop over the map, under way. -/
def RRel (P A : Int) (S : List Spd) (v : Value) (D : DataW Unit) (w : World) (rb : Nat) (wr : World) : Prop :=
  ∃ (left : Lit → Bool) (cnt : Nat), wr.ranges Try.prog 3 (plainElem Try.prog 3) (w.heap.size + 1) rb S.length D left cnt ∧ (∀ q, has D (.int .i64 q) = true → left (.int .i64 q) = false → sumK (perQ P q) S S.length ≤ A) ∧ BudCell wr w.heap.size P A v ∧ Below w.heap.size w wr

set_option maxRecDepth 100000 in
set_option maxHeartbeats 4000000 in
theorem check_any (P A : Int) (B : Option Addr) (S : List Spd) (cap : Nat) (w : World) (hS : SpAt w B S) (hl : S.length ≤ 100000) :
    Calls Try.prog 21 #[.agg #[.int .i64 P, .int .i64 A, .slice B S.length cap]] w (RetB (.int .i64 (budE P A S)) w) := by
  have HS := Lib.hid hS
  clear hS
  have hmm := @run_makeMap Try.prog
  by_cases g1 : 1 ≤ P ∧ P ≤ 1099511627776
  case neg =>
    have HV := Lib.hid (budE_head (P := P) (A := A) (S := S) (fun h => g1 ⟨h.1, h.2.1⟩))
    have HG := Lib.hid g1
    clear g1
    go_enter Try.func21, Try.ntmps21
    go_wp2_with fail
    refine ret_pure (in_no P 1 1099511627776 HG.out _) ?_
    go_wp2
    go_ret
    exact RetB.int HV.out (below_alloc _ _)
  case pos =>
  by_cases g2 : 0 ≤ A ∧ A ≤ 1073741824
  case neg =>
    have HV := Lib.hid (budE_head (P := P) (A := A) (S := S) (fun h => g2 ⟨h.2.2.1, h.2.2.2.1⟩))
    have HG := Lib.hid g2
    have HG1 := Lib.hid g1
    clear g2 g1
    go_enter Try.func21, Try.ntmps21
    go_wp2_with fail
    refine ret_pure (in_yes P 1 1099511627776 HG1.out _) ?_
    go_wp2_with fail
    refine ret_pure (in_no A 0 1073741824 HG.out _) ?_
    go_wp2
    go_ret
    exact RetB.int HV.out (below_alloc _ _)
  case pos =>
  have HG1 := Lib.hid g1
  have HG2 := Lib.hid g2
  by_cases g5 : 256 < (S.length : Int)
  · have HV := Lib.hid (budE_head (P := P) (A := A) (S := S) (fun h => by have := h.2.2.2.2; omega))
    clear g1 g2
    go_enter Try.func21, Try.ntmps21
    go_wp2_with fail
    refine ret_pure (in_yes P 1 1099511627776 HG1.out _) ?_
    go_wp2_with fail
    refine ret_pure (in_yes A 0 1073741824 HG2.out _) ?_
    go_wp2
    go_ret
    exact RetB.int HV.out (below_alloc _ _)
  · have HH := Lib.hid (show HeadOK P A S from ⟨g1.1, g1.2, g2.1, g2.2, by omega⟩)
    obtain ⟨p1, p2⟩ := g1
    obtain ⟨a1, a2⟩ := g2
    go_enter Try.func21, Try.ntmps21
    go_wp2_with fail
    refine ret_pure (in_yes P 1 1099511627776 HG1.out _) ?_
    go_wp2_with fail
    refine ret_pure (in_yes A 0 1073741824 HG2.out _) ?_
    go_wp2_with fail
    refine gen_world fun w1 hw1 => ?_
    have hb : Below w.heap.size w w1 := by rw [hw1]; exact (below_alloc _ _).alloc (by simp) _
    have HX1 : BudCell w1 w.heap.size P A (.slice B S.length cap) := by rw [hw1]; exact (BudCell.new _ _ _ rfl).alloc _
    have HM1 : w1.ownsMap (H := Unit) Try.prog 3 (plainElem Try.prog 3) (w.heap.size + 1) 0 (.map []) := by
      rw [hw1, show w.heap.size + 1 = (w.alloc (.cells #[.int .i64 P, .int .i64 A, .slice B S.length cap] 24)).heap.size by simp]; exact World.ownsMap_made _ _ _ _
    clear hw1
    go_loopw [28] (fun i wr => ∃ (k : Nat) (D : DataW Unit), k ≤ S.length ∧ i = .int .i64 k ∧ (∀ j, j < k → RowOK S j) ∧ Sums P S k D ∧ wr.ownsMap Try.prog 3 (plainElem Try.prog 3) (w.heap.size + 1) k D ∧ BudCell wr w.heap.size P A (.slice B S.length cap) ∧ Below w.heap.size w wr) (fun i _ => S.length - (intOf i).toNat)
    case atStart => exact ⟨0, .map [], Nat.zero_le _, rfl, fun j hj => absurd hj (by omega), Sums.start P S, HM1, HX1, hb⟩
    case round =>
      obtain ⟨k, D, hk, rfl, hpre, hsum, hown, hX, hbr⟩ := hrel
      clear HX1 HM1 hb
      have HP := Lib.hid hpre
      have HSUM := Lib.hid hsum
      have hml := hown.lt
      have HOWN := Lib.hid hown
      clear hpre hsum hown
      have hx0 := hX.c0
      have hx1 := hX.c1
      have hx2 := hX.c2
      have hs1 : w.heap.size < wr.heap.size := blk_lt hX
      have HX := Lib.hid hX
      clear hX
      by_cases hlt : k < S.length
      · have hS2 := HS.out.below hbr
        obtain ⟨b, off, rfl, hbl, c1, c2⟩ := hS2 k hlt
        have hbl0 : b < w.heap.size := by
          obtain ⟨b', off', e, hh, _, _⟩ := HS.out k hlt
          injection e with e
          injection e with e1 e2
          subst e1; exact hh
        have hprev : 0 < k → wr.cell? ⟨b, off + (k - 1) * 2, none⟩ = some (.int .i64 (tS S (k - 1))) := fun h => by
          obtain ⟨b', off', e, _, c1', _⟩ := hS2 (k - 1) (by omega)
          injection e with e
          injection e with e1 e2
          subst e1; subst e2; exact c1'
        clear hS2
        go_wp2_with fail
        refine gen_world fun w2 hw2 => ?_
        have hb2 : Below wr.heap.size wr w2 := by rw [hw2]; exact below_alloc _ _
        obtain ⟨e0, e1⟩ : w2.cell? ⟨wr.heap.size, 0, none⟩ = some (.int .i64 (tS S k)) ∧ w2.cell? ⟨wr.heap.size, 1, none⟩ = some (.int .i64 (cS S k)) := by rw [hw2]; exact pair_cells _ _ _
        have hprev2 : 0 < k → w2.cell? ⟨b, off + (k - 1) * 2, none⟩ = some (.int .i64 (tS S (k - 1))) := fun h => (hb2.cell (p := ⟨b, off + (k - 1) * 2, none⟩) hbl).trans (hprev h)
        have HX2 := Lib.hid (HX.out.below hb2)
        have HO2 := Lib.hid (show w2.ownsMap Try.prog 3 (plainElem Try.prog 3) (w.heap.size + 1) k D by rw [hw2]; exact HOWN.out.alloc _)
        have y0 := HX2.out.c0
        have y2 := HX2.out.c2
        have hbb : Below w.heap.size w w2 := hbr.trans (hb2.mono (by omega))
        clear hprev hw2 hx0 hx1 hx2 c1 c2 HX HOWN
        have HBR := Lib.hid (fun h => budE_row (P := P) (A := A) hlt h)
        have HRO := Lib.hid (fun h1 h2 h3 h4 h5 => (show RowOK S k from ⟨h1, h2, h3, h4, h5⟩))
        have HHP := Lib.hid hprev2
        clear hprev2
        by_cases t1 : 0 ≤ tS S k ∧ tS S k ≤ 1099511627776
        · have i1 : inI (tS S k) 0 1099511627776 = true := decide_eq_true t1
          rcases k with _ | j
          · skip
            by_cases c1 : 1 ≤ cS S 0 ∧ cS S 0 ≤ 1073741824
            · have i3 : inI (cS S 0) 1 1073741824 = true := decide_eq_true c1
              have HV := Lib.hid (HRO.out (by omega) (by omega) (fun h => absurd h (by omega)) (by omega) (by omega))
              clear HBR HRO HHP
              go_quiet ((go_at_call 49; exact Calls.quiet_of_same (in_any _ _ _ _)))
              go_wp2_with fail
              refine gen_world fun w3 hw3 => ?_
              have HO3 : w3.drew.ownsMap Try.prog 3 (plainElem Try.prog 3) (w.heap.size + 1) 0 D := by rw [hw3]; exact HO2.out
              have f0 : w3.cell? ⟨wr.heap.size, 0, none⟩ = some (.int .i64 (tS S 0)) := by rw [hw3]; exact e0
              have f1 : w3.cell? ⟨wr.heap.size, 1, none⟩ = some (.int .i64 (cS S 0)) := by rw [hw3]; exact e1
              have HX3 := Lib.hid (show BudCell w3 w.heap.size P A (.slice (some ⟨b, off, none⟩) S.length cap) by rw [hw3]; exact HX2.out)
              have f2 : w3.cell? ⟨w.heap.size, 0, none⟩ = some (.int .i64 P) := HX3.out.c0
              have hb3 : Below w.heap.size w w3 := by rw [hw3]; exact below_drewN hbb _
              have hs3 := hb3.size
              clear hw3 e0 e1 y0 y2 HX2 HO2 hbb
              have q1 : (tS S 0).tdiv P = tS S 0 / P := Int.tdiv_eq_ediv_of_nonneg t1.1
              have z1 : ¬ P = 0 := by omega
              have z2 : (P == 0) = false := by simp; omega
              have b1 := Int.ediv_nonneg t1.1 (show 0 ≤ P by omega)
              have b2 := Int.ediv_le_self P t1.1
              have v1 : IntKind.i64.wrap (tS S 0 / P) = tS S 0 / P := IntWalk.i64_in _ (by omega)
              have hkey : keyOf Try.prog 3 (.int .i64 (tS S 0 / P)) = some (.int .i64 (tS S 0 / P)) := keyOf_int_mk Try.underlying3 (wf_i64 (by omega) (by omega))
              obtain ⟨c, hrun, hat, -⟩ := HO3.lookup_int lawI Try.underlying87 Try.underlying3 (zeroI _) hkey
              have hc := hat
              rw [HSUM.out.at_] at hc
              injection hc with hc
              injection hc with _ hc
              have hcr := sumK_range2 (S := S) (perQ P (tS S 0 / P)) 0 (fun j hj => by have := (HP.out j hj).2.2.2; omega)
              rw [hc] at hcr
              have v2 : IntKind.i64.wrap (c + cS S 0) = c + cS S 0 := IntWalk.i64_in _ (by omega)
              have HSUM2 := Lib.hid (HSUM.out.step hat)
              have HK := Lib.hid hkey
              have HO := Lib.hid HO3
              clear hkey hat hc HSUM HO3 hb2
              have HX4 := Lib.hid (show BudCell w3.drew w.heap.size P A (.slice (some ⟨b, off, none⟩) S.length cap) from HX3.out)
              have hb4 : Below w.heap.size w w3.drew := below_drewN hb3 1
              have hs4 : w.heap.size + 1 < w3.drew.heap.size := HO.out.lt
              have hs5 : w.heap.size + 1 < w3.heap.size := hs4
              refine wp_region_still_tail 10 (by kernel_rfl) (by kernel_rfl) ?_
              simp only [List.take_succ_cons, List.take_zero, List.drop_succ_cons, List.drop_zero]
              repeat still_step
              refine wpStill_nil ?_
              refine wpList_mapUpdate_own _ rfl _ _ _ 87 rfl 3 3 lawI Try.underlying87 _ (w.heap.size + 1) 0 D rfl HO.out (by unfold maxLen; omega) (.int .i64 (tS S 0 / P)) (.int .i64 (c + cS S 0)) _ rfl rfl HK.out (iv (c + cS S 0)) [] (plainElem_int Try.underlying3 (wf_i64 (by omega) (by omega))) ?_
              intro w5 hown5 hgrow5
              have HX5 := Lib.hid (show BudCell w5 w.heap.size P A (.slice (some ⟨b, off, none⟩) S.length cap) from (hgrow5.block w.heap.size (show w.heap.size < w3.drew.heap.size by omega) (by intro e; injection e with e; omega)).trans HX4.out)
              have HO5 := Lib.hid hown5
              have hb5 : Below w.heap.size w w5 := hb4.grown hgrow5 hb4.size (fun j hj => by injection hj with hj; omega)
              clear hown5 hgrow5 hb4 HX4 HO HK hrun f0 f1 f2
              go_wp2_with fail
              go_roundw
              case rel =>
                refine ⟨0 + 1, _, by omega, by go_num, fun j' hj' => ?_, HSUM2.out, HO5.out, HX5.out, hb5⟩
                by_cases hjk : j' = 0
                · subst hjk; exact HV.out
                · exact HP.out j' (by omega)
              case measure => simp [intOf]; omega
            · have i3 : inI (cS S 0) 1 1073741824 = false := decide_eq_false c1
              have HV := Lib.hid (HBR.out (fun h => by exact c1 ⟨h.2.2.2.1, h.2.2.2.2⟩))
              clear HBR HRO HHP
              go_quiet ((go_at_call 49; exact Calls.quiet_of_same (in_any _ _ _ _)))
              go_wp2
              go_ret
              exact RetB.int HV.out (below_drewN hbb _)
          · have hp := HHP.out (by omega)
            rw [show j + 1 - 1 = j by omega] at hp
            by_cases t3 : tS S (j + 1) < tS S j
            · skip
              have HV := Lib.hid (HBR.out (fun h => by have := h.2.2.1 (by omega); rw [show j + 1 - 1 = j by omega] at this; omega))
              clear HBR HRO HHP
              go_quiet ((go_at_call 49; exact Calls.quiet_of_same (in_any _ _ _ _)))
              go_wp2
              go_ret
              exact RetB.int HV.out (below_drewN hbb _)
            · skip
              by_cases c1 : 1 ≤ cS S (j + 1) ∧ cS S (j + 1) ≤ 1073741824
              · have i3 : inI (cS S (j + 1)) 1 1073741824 = true := decide_eq_true c1
                have HV := Lib.hid (HRO.out (by omega) (by omega) (fun _ => by rw [show j + 1 - 1 = j by omega]; omega) (by omega) (by omega))
                clear HBR HRO HHP
                go_quiet ((go_at_call 49; exact Calls.quiet_of_same (in_any _ _ _ _)))
                go_wp2_with fail
                refine gen_world fun w3 hw3 => ?_
                have HO3 : w3.drew.ownsMap Try.prog 3 (plainElem Try.prog 3) (w.heap.size + 1) (j + 1) D := by rw [hw3]; exact HO2.out
                have f0 : w3.cell? ⟨wr.heap.size, 0, none⟩ = some (.int .i64 (tS S (j + 1))) := by rw [hw3]; exact e0
                have f1 : w3.cell? ⟨wr.heap.size, 1, none⟩ = some (.int .i64 (cS S (j + 1))) := by rw [hw3]; exact e1
                have HX3 := Lib.hid (show BudCell w3 w.heap.size P A (.slice (some ⟨b, off, none⟩) S.length cap) by rw [hw3]; exact HX2.out)
                have f2 : w3.cell? ⟨w.heap.size, 0, none⟩ = some (.int .i64 P) := HX3.out.c0
                have hb3 : Below w.heap.size w w3 := by rw [hw3]; exact below_drewN hbb _
                have hs3 := hb3.size
                clear hw3 e0 e1 y0 y2 HX2 HO2 hbb
                have q1 : (tS S (j + 1)).tdiv P = tS S (j + 1) / P := Int.tdiv_eq_ediv_of_nonneg t1.1
                have z1 : ¬ P = 0 := by omega
                have z2 : (P == 0) = false := by simp; omega
                have b1 := Int.ediv_nonneg t1.1 (show 0 ≤ P by omega)
                have b2 := Int.ediv_le_self P t1.1
                have v1 : IntKind.i64.wrap (tS S (j + 1) / P) = tS S (j + 1) / P := IntWalk.i64_in _ (by omega)
                have hkey : keyOf Try.prog 3 (.int .i64 (tS S (j + 1) / P)) = some (.int .i64 (tS S (j + 1) / P)) := keyOf_int_mk Try.underlying3 (wf_i64 (by omega) (by omega))
                obtain ⟨c, hrun, hat, -⟩ := HO3.lookup_int lawI Try.underlying87 Try.underlying3 (zeroI _) hkey
                have hc := hat
                rw [HSUM.out.at_] at hc
                injection hc with hc
                injection hc with _ hc
                have hcr := sumK_range2 (S := S) (perQ P (tS S (j + 1) / P)) (j + 1) (fun j hj => by have := (HP.out j hj).2.2.2; omega)
                rw [hc] at hcr
                have v2 : IntKind.i64.wrap (c + cS S (j + 1)) = c + cS S (j + 1) := IntWalk.i64_in _ (by omega)
                have HSUM2 := Lib.hid (HSUM.out.step hat)
                have HK := Lib.hid hkey
                have HO := Lib.hid HO3
                clear hkey hat hc HSUM HO3 hb2
                have HX4 := Lib.hid (show BudCell w3.drew w.heap.size P A (.slice (some ⟨b, off, none⟩) S.length cap) from HX3.out)
                have hb4 : Below w.heap.size w w3.drew := below_drewN hb3 1
                have hs4 : w.heap.size + 1 < w3.drew.heap.size := HO.out.lt
                have hs5 : w.heap.size + 1 < w3.heap.size := hs4
                refine wp_region_still_tail 10 (by kernel_rfl) (by kernel_rfl) ?_
                simp only [List.take_succ_cons, List.take_zero, List.drop_succ_cons, List.drop_zero]
                repeat still_step
                refine wpStill_nil ?_
                refine wpList_mapUpdate_own _ rfl _ _ _ 87 rfl 3 3 lawI Try.underlying87 _ (w.heap.size + 1) (j + 1) D rfl HO.out (by unfold maxLen; omega) (.int .i64 (tS S (j + 1) / P)) (.int .i64 (c + cS S (j + 1))) _ rfl rfl HK.out (iv (c + cS S (j + 1))) [] (plainElem_int Try.underlying3 (wf_i64 (by omega) (by omega))) ?_
                intro w5 hown5 hgrow5
                have HX5 := Lib.hid (show BudCell w5 w.heap.size P A (.slice (some ⟨b, off, none⟩) S.length cap) from (hgrow5.block w.heap.size (show w.heap.size < w3.drew.heap.size by omega) (by intro e; injection e with e; omega)).trans HX4.out)
                have HO5 := Lib.hid hown5
                have hb5 : Below w.heap.size w w5 := hb4.grown hgrow5 hb4.size (fun j hj => by injection hj with hj; omega)
                clear hown5 hgrow5 hb4 HX4 HO HK hrun f0 f1 f2
                go_wp2_with fail
                go_roundw
                case rel =>
                  refine ⟨(j + 1) + 1, _, by omega, by go_num, fun j' hj' => ?_, HSUM2.out, HO5.out, HX5.out, hb5⟩
                  by_cases hjk : j' = (j + 1)
                  · subst hjk; exact HV.out
                  · exact HP.out j' (by omega)
                case measure => simp [intOf]; omega
              · have i3 : inI (cS S (j + 1)) 1 1073741824 = false := decide_eq_false c1
                have HV := Lib.hid (HBR.out (fun h => by exact c1 ⟨h.2.2.2.1, h.2.2.2.2⟩))
                clear HBR HRO HHP
                go_quiet ((go_at_call 49; exact Calls.quiet_of_same (in_any _ _ _ _)))
                go_wp2
                go_ret
                exact RetB.int HV.out (below_drewN hbb _)
        · have i1 : inI (tS S k) 0 1099511627776 = false := decide_eq_false t1
          have HV := Lib.hid (HBR.out (fun h => by exact t1 ⟨h.1, h.2.1⟩))
          clear HBR HRO HHP
          go_quiet ((go_at_call 49; exact Calls.quiet_of_same (in_any _ _ _ _)))
          go_wp2
          go_ret
          exact RetB.int HV.out (below_drewN hbb _)
      · have hkl : k = S.length := by omega
        subst hkl
        go_wp2_with (first | (at_range; refine wpList_range_own _ rfl _ 87 rfl 3 3 lawI Try.underlying87 _ (w.heap.size + 1) S.length D rfl HOWN.out ?_; intro w0 hrg0 hg0 hs0) | fail)
        go_frame
        have HX0 := Lib.hid (show BudCell w0 w.heap.size P A (.slice B S.length cap) from (hg0.block w.heap.size (by omega) (by simp)).trans HX.out)
        have hb0 : Below w.heap.size w w0 := hbr.grown hg0 hbr.size (fun j hj => by cases hj)
        have HCAN := Lib.hid (HOWN.out.canon lawI)
        have hrbl : w.heap.size + 1 < wr.heap.size := HOWN.out.lt
        obtain ⟨rb, hrb⟩ : ∃ rb, rb = wr.heap.size := ⟨_, rfl⟩
        rw [← hrb] at hrg0 hs0 hrbl ⊢
        clear hrb
        clear hg0 HX HOWN hx0 hx1 hx2
        go_loopw [] (fun wr => RRel P A S (.slice B S.length cap) D w rb wr) (fun wr => wr.rangeLeft (w.heap.size + 1) rb)
        case atStart => exact ⟨_, _, hrg0, fun q h1 h2 => by (rw [h1] at h2; cases h2), HX0.out, hb0⟩
        case round =>
          obtain ⟨left, cnt, hrg, hle, hX, hbr2⟩ := hrel
          have hx1 := hX.c1
          have HX := Lib.hid hX
          have HLE := Lib.hid hle
          clear hX hle
          go_wp2_with (first | (at_next; refine wpList_next_ranges_ii _ rfl _ rfl 3 3 .i64 .i64 lawI Try.underlying3 Try.underlying3 (w.heap.size + 1) rb S.length _ _ _ rfl hrg ?_ ?_) | fail)
          · intro hc0 hl0
            have HV := Lib.hid (budE_ok (P := P) (A := A) (S := S) ⟨HH.out, fun j hj => HP.out j hj, fun j hj => HLE.out _ (HSUM.out.to_ j hj) (hl0 _)⟩)
            clear hl0 HLE
            go_wp2_with fail
            go_ret
            exact RetB.int HV.out.symm hbr2
          · intro x c w7 cnt1 hwx hwc hlx hat hrg1 hlt1 hg1 hs1' hen
            have hX7 : BudCell w7 w.heap.size P A (.slice B S.length cap) := (hg1.block w.heap.size (blk_lt HX.out) (by intro e; injection e with e; omega)).trans HX.out
            have hx7 := hX7.c1
            have HX7 := Lib.hid hX7
            have hb7 : Below w.heap.size w w7 := hbr2.grown hg1 hbr2.size (fun j hj => by injection hj with hj; omega)
            have hcs : sumK (perQ P x) S S.length = c := by
              have h1 := HSUM.out.at_ x
              rw [hat] at h1
              injection h1 with h1
              injection h1 with _ h1
              exact h1.symm
            have hhas : has D (.int .i64 x) = true := has_true_of_atKey hat
            obtain ⟨j, hj, hjx⟩ := HSUM.out.from_ _ hhas
            injection hjx with _ hjx
            have HR1 := Lib.hid hrg1
            have HL1 := Lib.hid hrg.left_eq
            have HCS := Lib.hid hcs
            clear hwx hwc hlx hat hrg hg1 hhas hX7 hx1 HX hcs hrg1
            by_cases hcA : A < c
            · have HV := Lib.hid (budE_used (P := P) (A := A) (S := S) hj (by show ¬ sumK (perQ P (tS S j / P)) S S.length ≤ A; rw [← hjx, HCS.out]; omega))
              clear hjx
              go_wp2_with fail
              go_ret
              exact RetB.int HV.out hb7
            · clear hjx
              go_wp2_with fail
              go_roundw
              case rel =>
                refine ⟨_, cnt1, HR1.out, fun q h1 h2 => ?_, HX7.out, hb7⟩
                by_cases hq : q = x
                · subst hq; rw [HCS.out]; omega
                · refine HLE.out q h1 ?_
                  rw [sameKey_ne (fun e => hq (by injection e))] at h2
                  simpa using h2
              case measure => rw [HR1.out.left_eq, HL1.out]; exact hlt1
end Go.Proofs.Ytmnkgfimdlhhiaa
namespace Go.Proofs.Ytmnkgfimdlhhiaa
open Go.RowKit

def flat : List Spd → List Value
  | [] => []
  | x :: S => .int .i64 x.1 :: .int .i64 x.2 :: flat S
theorem flat_len : ∀ S : List Spd, (flat S).length = S.length * 2
  | [] => rfl
  | x :: S => by simp [flat, flat_len S]; omega
theorem flat_append : ∀ S T : List Spd, flat (S ++ T) = flat S ++ flat T
  | [], T => rfl
  | x :: S, T => by simp [flat, flat_append S T]
theorem flat_at : ∀ (S : List Spd) (k : Nat), k < S.length → (flat S)[k * 2]? = some (.int .i64 (tS S k)) ∧ (flat S)[k * 2 + 1]? = some (.int .i64 (cS S k))
  | [], k, h => absurd h (by simp)
  | x :: S, 0, _ => by simp [flat, tS, cS]
  | x :: S, k + 1, h => by
    have ih := flat_at S k (by simpa using h)
    rw [show (k + 1) * 2 = k * 2 + 1 + 1 by omega]
    simp only [flat, List.getElem?_cons_succ]
    exact ih
theorem flat_one (S : List Spd) : ∀ u ∈ flat S, u.oneCell' = true := by
  induction S with
  | nil => intro u h; cases h
  | cons x S ih =>
    intro u h
    simp only [flat, List.mem_cons] at h
    rcases h with rfl | rfl | h
    · rfl
    · rfl
    · exact ih u h
/-- The call's own slice of spends. -/
def SpOwn (w : World) (base : Nat) (v : Value) (S : List Spd) : Prop := w.ownsRow base 33 2 v S.length (flat S)
theorem SpOwn.at_ {w : World} {base : Nat} {v : Value} {S : List Spd} (h : SpOwn w base v S) : ∃ A c, v = .slice A S.length c ∧ SpAt w A S ∧ (A = none → c = 0) ∧ ∀ b off, A = some ⟨b, off, none⟩ → base ≤ b ∧ b < w.heap.size := by
  rcases h.2 with ⟨rfl, h0⟩ | ⟨g, cap, cur, rfl, hg, hh, hnc, hcm, hcs, htk⟩
  · have : S = [] := List.eq_nil_of_length_eq_zero h0
    subst this
    exact ⟨none, 0, rfl, SpAt.nil _ _, fun _ => rfl, fun b off e => (by cases e)⟩
  · have hlt : g < w.heap.size := blk_lt hh
    refine ⟨some ⟨g, 0, none⟩, cap, rfl, fun k hk => ?_, fun e => (by cases e), fun b off e => (by injection e with e; injection e with e1 e2; subst e1; exact ⟨hg, hlt⟩)⟩
    obtain ⟨f1, f2⟩ := flat_at S k hk
    refine ⟨g, 0, rfl, hlt, ?_, ?_⟩
    · rw [Nat.zero_add, h.cellAt (j := k * 2) (by omega)]; exact f1
    · rw [Nat.zero_add, h.cellAt (j := k * 2 + 1) (by omega)]; exact f2
theorem SpOwn.below {w w' : World} {base : Nat} {v : Value} {S : List Spd} (h : SpOwn w base v S) (hb : Below w.heap.size w w') : SpOwn w' base v S := own_below h hb
theorem SpOwn.mono {w : World} {base base' : Nat} {v : Value} {S : List Spd} (h : SpOwn w base v S) (hb : base' ≤ base) : SpOwn w base' v S := ownsRow_mono h hb
theorem SpOwn.nil (w : World) (base : Nat) : SpOwn w base (.slice none 0 0) [] := ⟨rfl, .inl ⟨rfl, rfl⟩⟩
theorem SpAt.news {w : World} {b off : Nat} {S : List Spd} (h : SpAt w (some ⟨b, off, none⟩) S) : ∀ j u, (flat S)[j]? = some u → w.cell? ((⟨b, off, none⟩ : Addr).add j) = some u := fun j u hu => by
  have hj : j < S.length * 2 := by
    rcases Nat.lt_or_ge j (flat S).length with h1 | h1
    · rw [flat_len] at h1; exact h1
    · rw [List.getElem?_eq_none h1] at hu; cases hu
  obtain ⟨b', off', e, _, c1, c2⟩ := h (j / 2) (by omega)
  injection e with e
  injection e with e1 e2
  subst e1; subst e2
  obtain ⟨f1, f2⟩ := flat_at S (j / 2) (by omega)
  have e : (⟨b, off, none⟩ : Addr).add j = ⟨b, off + j, none⟩ := by
    unfold Addr.add; split
    · rename_i h; subst h; rfl
    · rfl
  rw [e]
  rcases Nat.mod_two_eq_zero_or_one j with hm | hm
  · rw [show j / 2 * 2 = j by omega] at f1 c1
    rw [c1, ← hu, f1]
  · rw [show off + j / 2 * 2 + 1 = off + j by omega] at c2
    rw [show j / 2 * 2 + 1 = j by omega] at f2
    rw [c2, ← hu, f2]
theorem SpOwn.empty (w : World)  : SpOwn (w.alloc (.cells #[] 33)) w.heap.size (.slice (some ⟨w.heap.size, 0, none⟩) 0 0) [] :=
  ⟨rfl, .inr ⟨w.heap.size, 0, #[], rfl, Nat.le_refl _, heap_alloc_new w _, Nat.le_refl _, Nat.zero_le _, rfl, rfl⟩⟩
theorem below_of_alloc {B : Nat} {w w' : World} {o : Obj} (h : Below B (w.alloc o) w') (hB : B ≤ w.heap.size) : Below B w w' := ((Below.refl _ _).alloc hB o).trans h
theorem SpAt.newsA {w : World} {a : Addr} {S : List Spd} (h : SpAt w (some a) S) (hA : a.spot = none ∨ S.length = 0) : ∀ j u, (flat S)[j]? = some u → w.cell? (a.add j) = some u := fun j u hu => by
  rcases hA with hA | hA
  · obtain ⟨b, off, spot⟩ := a
    have hA : spot = none := hA
    subst hA
    exact h.news j u hu
  · have : S = [] := List.eq_nil_of_length_eq_zero hA
    subst this
    simp [flat] at hu
/-- append of a slice of spends onto one of the call's own. -/
theorem app_spendsA {ops : Array Oper} {rest : List Oper} {o : Oper} {a : Act} {Q : Exit → Act → World → Prop} (hgd : o.guard = none) (s x : Operand)
    (ho : o.op = .call { callee := .builtin .append, args := #[s, x], argTypes := #[22, 22] })
    {base : Nat} {w : World} {v : Value} {S T : List Spd} {ad : Addr} {c : Nat} (hs : a.eval s = v) (hown : SpOwn w base v S)
    (hx : a.eval x = .slice (some ad) T.length c) (hT : ∀ j u, (flat T)[j]? = some u → w.cell? (ad.add j) = some u) (hl : S.length + T.length ≤ 200000) (hbase : base ≤ w.heap.size)
    (h : ∀ v' w', SpOwn w' base v' (S ++ T) → w.grownBy w' v.ownBlock → Below base w w' → wpList Try.prog ops Q rest (a.put o.dst v') w') :
    wpList Try.prog ops Q (o :: rest) a w := by
  obtain ⟨i0, hi, hz0, hz1, hz2⟩ := info_parts info_spend
  refine wpList_append_own w hgd s x 22 ho base 33 i0 _ 2 16 Try.underlying22 hi hz0 hz1 hz2 rfl (by omega) v S.length (flat S) hs hown _ T.length c (flat T) hx (flat_len T) hT (flat_one T) (by unfold maxLen; omega) (by omega) hbase ?_
  intro v' w' h2 h3 _
  refine h v' w' ?_ h3 ((Below.refl _ _).grown h3 hbase (fun k hk => (hown.lt k hk).1))
  unfold SpOwn; rw [List.length_append, flat_append]; exact h2
theorem app_spends {ops : Array Oper} {rest : List Oper} {o : Oper} {a : Act} {Q : Exit → Act → World → Prop} (hgd : o.guard = none) (s x : Operand)
    (ho : o.op = .call { callee := .builtin .append, args := #[s, x], argTypes := #[22, 22] })
    {base : Nat} {w : World} {v : Value} {S T : List Spd} {b off c : Nat} (hs : a.eval s = v) (hown : SpOwn w base v S)
    (hx : a.eval x = .slice (some ⟨b, off, none⟩) T.length c) (hT : SpAt w (some ⟨b, off, none⟩) T) (hl : S.length + T.length ≤ 200000) (hbase : base ≤ w.heap.size)
    (h : ∀ v' w', SpOwn w' base v' (S ++ T) → w.grownBy w' v.ownBlock → Below base w w' → wpList Try.prog ops Q rest (a.put o.dst v') w') :
    wpList Try.prog ops Q (o :: rest) a w := app_spendsA hgd s x ho hs hown hx hT.news hl hbase h

set_option maxRecDepth 100000 in
set_option maxHeartbeats 400000 in
theorem clone_any (A : Option Addr) (S : List Spd) (c : Nat) (w : World) (hS : SpAt w A S) (hA : ∀ a, A = some a → a.spot = none ∨ S.length = 0) (hN : A = none → S.length = 0 ∧ c = 0) (hl : S.length ≤ 100000) :
    Calls Try.prog 48 #[.slice A S.length c] w (fun e w' => ∃ v, e = .returned v ∧ SpOwn w' w.heap.size v S ∧ Below w.heap.size w w') := by
  rcases A with _ | a
  · obtain ⟨h1, rfl⟩ := hN rfl
    have : S = [] := List.eq_nil_of_length_eq_zero h1
    subst this
    clear hS hA hN h1
    have he : ∀ w : World, (binOp .eql 22 (.slice none 0 0) (.slice none 0 0)).run Try.prog w = .ok (.bool true) w := fun _ => rfl
    go_enter Try.func48, Try.ntmps48
    go_wp2
    go_ret
    exact ⟨_, rfl, SpOwn.nil _ _, Below.refl _ _⟩
  · have HA := Lib.hid (hA a rfl)
    clear hA hN
    have HS := Lib.hid hS
    clear hS
    have he : ∀ w : World, (binOp .eql 22 (.slice (some a) S.length c) (.slice none 0 0)).run Try.prog w = .ok (.bool false) w := fun _ => rfl
    go_enter Try.func48, Try.ntmps48
    go_wp2_with (first | (at_builtin; refine app_spendsA rfl (.tmp 5) (.tmp 6) rfl (base := w.heap.size) (S := []) (T := S) (v := .slice (some ⟨w.heap.size, 0, none⟩) 0 0) rfl (SpOwn.empty w) rfl ((HS.out.alloc _).newsA HA.out) (by simp; omega) (by simp) ?_; intro v w1 hown hg hb; clear hg he HS) | fail)
    go_ret
    exact ⟨_, rfl, hown, below_of_alloc hb (Nat.le_refl _)⟩

/-! ### The document's copy -/
theorem BudCell.frozen {w : World} {x : Nat} {P A : Int} {v : Value} (h : BudCell w x P A v) (j : Nat) : w.frozen? ⟨x, j, none⟩ = false := by
  unfold BudCell at h; simp [World.frozen?, h]
theorem results_bud {fn : Func} {p : Tmp} (h : fn.results = #[.cell p 24]) (tmps : Array Value) (w : World) (g : Nat) (hp : tmps.getD p undef = .pointer (some ⟨g, 0, none⟩)) {P A : Int} {v : Value} (hX : BudCell w g P A v) :
    (results fn tmps).run Try.prog w = .ok (.agg #[.int .i64 P, .int .i64 A, v]) w :=
  results_cell_row h tmps w g 24 _ (0, 0) _ hp hX Try.underlying24 rfl (by kernel_rfl)
theorem results_bud2 {fn : Func} {p u : Tmp} (h : fn.results = #[.cell p 24, .tmp u]) (tmps : Array Value) (w : World) (g : Nat) (hp : tmps.getD p undef = .pointer (some ⟨g, 0, none⟩)) {P A : Int} {v : Value} (hX : BudCell w g P A v) :
    (results fn tmps).run Try.prog w = .ok (.tuple #[.agg #[.int .i64 P, .int .i64 A, v], tmps.getD u undef]) w := by
  rw [results_cell_tmp h, hp]
  have hl := run_loadVar_row (P := Try.prog) w g 24 24 _ (0, 0) _ hX Try.underlying24 rfl (by kernel_rfl)
  simp [asAddr, hl, Result.andThen]
theorem BudCell.set0 {w : World} {x : Nat} {P A : Int} {v : Value} (h : BudCell w x P A v) (P' : Int) : BudCell (w.setCell ⟨x, 0, none⟩ (.int .i64 P')) x P' A v := by
  unfold BudCell at h ⊢; simp [World.setCell, Array.getElem?_modify, h]
theorem BudCell.set1 {w : World} {x : Nat} {P A : Int} {v : Value} (h : BudCell w x P A v) (A' : Int) : BudCell (w.setCell ⟨x, 1, none⟩ (.int .i64 A')) x P A' v := by
  unfold BudCell at h ⊢; simp [World.setCell, Array.getElem?_modify, h]
theorem BudCell.set2 {w : World} {x : Nat} {P A : Int} {v : Value} (h : BudCell w x P A v) (v' : Value) : BudCell (w.setCell ⟨x, 2, none⟩ v') x P A v' := by
  unfold BudCell at h ⊢; simp [World.setCell, Array.getElem?_modify, h]
theorem BudCell.other {w : World} {x : Nat} {P A : Int} {v : Value} (h : BudCell w x P A v) (p : Addr) (u : Value) (hp : x ≠ p.block) : BudCell (w.setCell p u) x P A v :=
  (Below.heap_setCell w p u x hp).trans h
theorem SpOwn.set_ {w : World} {base : Nat} {v : Value} {S : List Spd} (h : SpOwn w base v S) (p : Addr) (u : Value) (hp : p.block < base) : SpOwn (w.setCell p u) base v S := by
  obtain ⟨h1, h2⟩ := h
  refine ⟨h1, ?_⟩
  rcases h2 with h2 | ⟨g, cap, cur, hv, hg, hh, r⟩
  · exact .inl h2
  · exact .inr ⟨g, cap, cur, hv, hg, (Below.heap_setCell w p u g (by omega)).trans hh, r⟩
theorem below_set {B : Nat} {w w' : World} (h : Below B w w') (p : Addr) (u : Value) (hp : B ≤ p.block) : Below B w (w'.setCell p u) :=
  ⟨h.os, h.tape, h.output, by simpa [World.setCell] using h.size, fun k hk => (Below.heap_setCell w' p u k (by omega)).trans (h.block k hk)⟩
theorem copy_cells {w w1 : World} {P A : Int} {v : Value} (hg : ((w.alloc (.cells #[.int .i64 P, .int .i64 A, v] 24)).alloc (.cells #[.int .i64 0, .int .i64 0, .slice none 0 0] 24)).grownBy w1 (Value.slice none 0 0).ownBlock) :
    BudCell w1 w.heap.size P A v ∧ BudCell w1 (w.heap.size + 1) 0 0 (.slice none 0 0) := by
  have hb : Below (w.heap.size + 1 + 1) ((w.alloc (.cells #[.int .i64 P, .int .i64 A, v] 24)).alloc (.cells #[.int .i64 0, .int .i64 0, .slice none 0 0] 24)) w1 :=
    ⟨hg.os, hg.tape, hg.output, hg.size, fun k hk => hg.block k (by simp; omega) (by simp [Value.ownBlock])⟩
  exact ⟨(hb.block _ (by omega)).trans ((BudCell.new (w := w) P A v rfl).alloc _), (hb.block _ (by omega)).trans (BudCell.new _ _ _ (by simp))⟩
set_option maxRecDepth 100000 in
set_option maxHeartbeats 400000 in
theorem copy_any (P A : Int) (B : Option Addr) (S : List Spd) (c : Nat) (w : World) (hS : SpAt w B S) (hA : ∀ a, B = some a → a.spot = none ∨ S.length = 0) (hN : B = none → S.length = 0 ∧ c = 0) (hl : S.length ≤ 100000) :
    Calls Try.prog 65 #[.agg #[.int .i64 P, .int .i64 A, .slice B S.length c]] w (fun e w' => ∃ v, e = .returned (.agg #[.int .i64 P, .int .i64 A, v]) ∧ SpOwn w' w.heap.size v S ∧ Below w.heap.size w w') := by
  rcases B with _ | a
  · obtain ⟨h1, rfl⟩ := hN rfl
    have : S = [] := List.eq_nil_of_length_eq_zero h1
    subst this
    clear hS hA hN h1
    go_enter Try.func65, Try.ntmps65
    go_wp2_with fail
    refine bodyPost_ret (results_bud rfl _ _ (w.heap.size + 1) rfl (P := P) (A := A) (v := .slice none 0 0) (BudCell.new _ _ _ (by simp))) rfl ⟨_, rfl, SpOwn.nil _ _, (below_alloc _ _).alloc (by simp) _⟩
  · have HA := Lib.hid (hA a rfl)
    clear hA hN
    have HS := Lib.hid hS
    clear hS
    go_enter Try.func65, Try.ntmps65
    go_wp2_with (first | (at_builtin; refine app_spendsA rfl (.const (.slice none 0 0)) (.tmp 4) rfl (base := w.heap.size + 1 + 1) (S := []) (T := S) (v := .slice none 0 0) rfl (SpOwn.nil _ _) rfl (((HS.out.alloc _).alloc _).newsA HA.out) (by simp; omega) (by simp) ?_; intro v w1 hown hg hb; obtain ⟨C, c', rfl, hC, -, hCb⟩ := hown.at_; have hX := (copy_cells hg).1; have hY := (copy_cells hg).2; have x0 := hX.c0; have x1 := hX.c1; have x2 := hX.c2; have y0 := hY.c0; have y1 := hY.c1; have y2 := hY.c2; have f0 := hY.frozen 0; have f1 := hY.frozen 1; have f2 := hY.frozen 2; have g2 := hX.frozen 2) | fail)
    refine bodyPost_ret (results_bud rfl _ _ (w.heap.size + 1) rfl (P := P) (A := A) (v := .slice C S.length c') ?_) rfl ⟨_, rfl, ?_, ?_⟩
    · exact (((hY.other _ _ (by simp)).set0 P).set1 A).set2 _
    · exact ((((hown.set_ _ _ (by simp; omega)).set_ _ _ (by simp)).set_ _ _ (by simp)).set_ _ _ (by simp)).mono (by omega)
    · exact below_set (below_set (below_set (below_set ((below_of_alloc (below_of_alloc (hb.mono (show w.heap.size ≤ _ by omega)) (by simp)) (Nat.le_refl _))) _ _ (by simp)) _ _ (by simp)) _ _ (by simp)) _ _ (by simp)
end Go.Proofs.Ytmnkgfimdlhhiaa
namespace Go.Proofs.Ytmnkgfimdlhhiaa
open Go.RowKit

def oneD (x d : Int) : Int := if x = d then 1 else 0
theorem oneD_yes {x d : Int} (h : x = d) : oneD x d = 1 := if_pos h
theorem oneD_no {x d : Int} (h : ¬ x = d) : oneD x d = 0 := if_neg h
/-- How many contents of a list are of a department. -/
def cntD (d : Int) : List Spd → Int
  | [] => 0
  | x :: L => oneD x.2 d + cntD d L
theorem cntD_append (d : Int) : ∀ L M : List Spd, cntD d (L ++ M) = cntD d L + cntD d M
  | [], M => by simp [cntD]
  | x :: L, M => by simp only [List.cons_append, cntD]; rw [cntD_append d L M]; omega
theorem oneD_range (x d : Int) : 0 ≤ oneD x d ∧ oneD x d ≤ 1 := by unfold oneD; split <;> omega
theorem cntD_range (d : Int) : ∀ L : List Spd, 0 ≤ cntD d L ∧ cntD d L ≤ L.length
  | [] => ⟨Int.le_refl _, Int.le_refl _⟩
  | x :: L => by
    have := cntD_range d L
    have := oneD_range x.2 d
    simp only [cntD, List.length_cons]; push_cast; omega
theorem cntD_reverse (d : Int) (L : List Spd) : cntD d L.reverse = cntD d L := by
  induction L with
  | nil => rfl
  | cons x L ih => rw [List.reverse_cons, cntD_append, ih]; simp only [cntD]; omega
theorem cntD_take {L : List Spd} {k : Nat} (d : Int) (h : k < L.length) : cntD d (L.take (k + 1)) = cntD d (L.take k) + oneD (cS L k) d := by
  rw [List.take_succ_eq_append_getElem h, cntD_append]
  simp [cntD, cS, List.getD_eq_getElem?_getD, h]
/-- The sum over the first departments. -/
def sumC (L : List Spd) : Nat → Int
  | 0 => 0
  | k + 1 => sumC L k + cntD k L
theorem sumC_cons (x : Spd) (L : List Spd) : ∀ n : Nat, sumC (x :: L) n = sumC L n + (if 0 ≤ x.2 ∧ x.2 < n then 1 else 0)
  | 0 => by simp only [sumC]; rw [if_neg (by omega)]; rfl
  | n + 1 => by
    simp only [sumC, cntD]
    rw [sumC_cons x L n]
    unfold oneD
    by_cases h : x.2 = (n : Int)
    · rw [if_pos h, if_neg (by omega), if_pos (by omega)]; omega
    · rw [if_neg h]
      by_cases h2 : 0 ≤ x.2 ∧ x.2 < (n : Int)
      · rw [if_pos h2, if_pos (by omega)]; omega
      · rw [if_neg h2, if_neg (by omega)]; omega
theorem sumC_nil : ∀ n, sumC [] n = 0
  | 0 => rfl
  | n + 1 => by simp only [sumC, cntD]; rw [sumC_nil n]; rfl
def Depts (L : List Spd) (n : Nat) : Prop := ∀ x ∈ L, 0 ≤ x.2 ∧ x.2 < (n : Int)
theorem sumC_all (n : Nat) : ∀ L : List Spd, Depts L n → sumC L n = L.length
  | [], _ => sumC_nil n
  | x :: L, h => by
    rw [sumC_cons, if_pos (h x (by simp)), sumC_all n L (fun y hy => h y (by simp [hy]))]
    simp
theorem sumC_range (L : List Spd) : ∀ n : Nat, 0 ≤ sumC L n ∧ sumC L n ≤ n * L.length
  | 0 => ⟨Int.le_refl _, by simp [sumC]⟩
  | n + 1 => by
    have h1 := sumC_range L n
    have h2 := cntD_range n L
    simp only [sumC]
    have : ((n + 1 : Nat) : Int) * L.length = n * L.length + L.length := by push_cast; rw [Int.add_mul, Int.one_mul]
    omega

/-- Which lists can be the departments of a table. -/
def RowK (l : List Int) (k : Nat) : Prop := 0 ≤ nth l k ∧ nth l k ≤ 63 ∧ (0 < k → nth l (k - 1) < nth l k)
instance (l : List Int) (k : Nat) : Decidable (RowK l k) := by unfold RowK; exact inferInstance
def RowsOK (l : List Int) : Prop := (1 ≤ l.length ∧ l.length ≤ 64) ∧ ∀ k, k < l.length → RowK l k
instance (l : List Int) : Decidable (RowsOK l) := by unfold RowsOK; exact inferInstance
def rowsB (l : List Int) : Bool := decide (RowsOK l)
theorem rowsB_at {l : List Int} {k : Nat} (hk : k < l.length) (h : ¬ RowK l k) : false = rowsB l := (decide_eq_false (fun H : RowsOK l => h (H.2 k hk))).symm
theorem rowsB_len {l : List Int} (h : ¬ (1 ≤ l.length ∧ l.length ≤ 64)) : false = rowsB l := (decide_eq_false (fun H : RowsOK l => h H.1)).symm
theorem rowsB_yes {l : List Int} (h1 : 1 ≤ l.length ∧ l.length ≤ 64) (h2 : ∀ k, k < l.length → RowK l k) : true = rowsB l := (decide_eq_true (show RowsOK l from ⟨h1, h2⟩)).symm
theorem rowsB_all {l : List Int} (h2 : ∀ k, k < l.length → RowK l k) : decide (1 ≤ l.length ∧ l.length ≤ 64) = rowsB l := by
  by_cases h1 : 1 ≤ l.length ∧ l.length ≤ 64
  · rw [decide_eq_true h1]; exact rowsB_yes h1 h2
  · rw [decide_eq_false h1]; exact rowsB_len h1
end Go.Proofs.Ytmnkgfimdlhhiaa
