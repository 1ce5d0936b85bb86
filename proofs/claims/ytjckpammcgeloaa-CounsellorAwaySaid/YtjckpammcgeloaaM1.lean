/-
  Words that all later texts of this claim use: what a call returns, and what it leaves of memory.
  What the statements' own small functions do: Mod, Light, Roll, Next, Same; slices that read as lists of numbers; dice.
  Arrays of numbers that a call made itself, written in place.
  Rows of elements of any width, in memory: those that came in, and those of the call's own.
  Slices of elements of any width: where they lie, and which worlds keep them.
  Desks in memory.
  A region that draws its order: what holds of it whatever the order, told by what each operation leaves behind it.
  A region's operations, one by one.
  A region's operations, one by one: addresses, sums, literals, append.
  A region that draws its order: each operation's value has a property of its own, which later worlds keep.
  ranges.In.
  Conditions: those that each theorem names.
-/
import Derived.Test.YtjckpammcgeloaaProg
import Derived.WalkKit
import Derived.WalkSpells
import Derived.WalkLawsBesides
import Derived.Deep.QuietTactic
import Derived.BigQuiet
import Derived.Lib.Hide
import Derived.RegionTactic
import Derived.Conc.EntryLaws
import Derived.Deep.AppendLies
set_option linter.unusedVariables false
set_option linter.unusedSimpArgs false
namespace Go.Proofs.Ytjckpammcgeloaa
open Go.RowKit

/-- The call returns v and leaves the world as it was. -/
def Ret (v : Value) (w : World) (e : Ending) (w' : World) : Prop := e = .returned v ∧ w' = w
/-- The call returns v; what was there is as it was. -/
def RetB (v : Value) (w : World) (e : Ending) (w' : World) : Prop := e = .returned v ∧ Below w.heap.size w w'
/-- The call returns something of which Φ holds; what was there is as it was. -/
def RetP (Φ : Value → World → Prop) (w : World) (e : Ending) (w' : World) : Prop := ∃ v, e = .returned v ∧ Below w.heap.size w w' ∧ Φ v w'

theorem Ret.val {v u : Value} {w : World} (h : u = v) : Ret v w (.returned u) w := ⟨by rw [h], rfl⟩
theorem Ret.int {k : IntKind} {m u : Int} {w : World} (h : u = m) : Ret (.int k m) w (.returned (.int k u)) w := ⟨by rw [h], rfl⟩
theorem Ret.bool {m u : Bool} {w : World} (h : u = m) : Ret (.bool m) w (.returned (.bool u)) w := ⟨by rw [h], rfl⟩
theorem RetB.val {v u : Value} {w w' : World} (h : u = v) (hb : Below w.heap.size w w') : RetB v w (.returned u) w' := ⟨by rw [h], hb⟩
theorem RetB.int {k : IntKind} {m u : Int} {w w' : World} (h : u = m) (hb : Below w.heap.size w w') : RetB (.int k m) w (.returned (.int k u)) w' := ⟨by rw [h], hb⟩
theorem RetB.bool {m u : Bool} {w w' : World} (h : u = m) (hb : Below w.heap.size w w') : RetB (.bool m) w (.returned (.bool u)) w' := ⟨by rw [h], hb⟩
theorem RetP.mk {Φ : Value → World → Prop} {v : Value} {w w' : World} (hb : Below w.heap.size w w') (h : Φ v w') : RetP Φ w (.returned v) w' := ⟨v, rfl, hb, h⟩

/-- What a world that keeps all below says of old cells. -/
theorem bcell {B : Nat} {W w1 : World} (hb : Below B W w1) : (∀ b o, b < B → w1.cell? ⟨b, o, none⟩ = W.cell? ⟨b, o, none⟩) ∧ (∀ b o, b < B → w1.frozen? ⟨b, o, none⟩ = W.frozen? ⟨b, o, none⟩) :=
  ⟨fun b o h => hb.cell (p := ⟨b, o, none⟩) h, fun b o h => hb.frozen (p := ⟨b, o, none⟩) h⟩

/-- A world in which all that was there stands as it stood, and more may have come. -/
structure Grew (w : World) where
  to : World
  ok : Below w.heap.size w to
instance (w : World) : Nonempty (Grew w) := ⟨⟨w, Below.refl _ _⟩⟩
def grewW (w : World) (t : Grew w) : World := t.to
theorem grewW.below (w : World) (t : Grew w) : Below w.heap.size w (grewW w t) := t.ok
@[simp, go_sem] theorem cell_grewW (w : World) (t : Grew w) (b o : Nat) (h : b < w.heap.size) : (grewW w t).cell? ⟨b, o, none⟩ = w.cell? ⟨b, o, none⟩ := t.ok.cell h
@[simp, go_sem] theorem frozen_grewW (w : World) (t : Grew w) (b o : Nat) (h : b < w.heap.size) : (grewW w t).frozen? ⟨b, o, none⟩ = w.frozen? ⟨b, o, none⟩ := t.ok.frozen h
theorem IsGrew {w w' : World} (h : Below w.heap.size w w') : ∃ t, w' = grewW w t := ⟨⟨w', h⟩, rfl⟩

/-- A region that draws its order, whose operations read what was there, and whose callees keep it: the walk in the text's order serves. -/
theorem wp_region_grew {P : Program} {id : Nat} {Q : Exit → Act → World → Prop} {a : Act} {w : World} {l : List Oper} (hm : P.follows .mixedOrders = true) (hB : Region.lexB .any l.toArray = true)
    (h : wpQuiet P l.toArray (fun w' => ∃ t, w' = grewW w t) (fun a' => ∀ w', Below w.heap.size w w' → Q .normal a' w') l a) : (Code.region id l.toArray true).wp P Q a w := by
  refine wp_region_quiet (C := fun w' => ∃ t, w' = grewW w t) hm hB (IsGrew (Below.refl _ _).drew) ?_
  have e : (fun a' => ∀ w', (∃ t, w' = grewW w t) → Q .normal a' w') = (fun a' => ∀ w', Below w.heap.size w w' → Q .normal a' w') := by
    funext a'
    exact propext ⟨fun g w' hb => g w' (IsGrew hb), fun g w' ⟨t, ht⟩ => ht ▸ g _ t.ok⟩
  rw [e]
  simpa using h
/-- A callee's contract, met in a grown world. -/
theorem grew_of {P : Program} {f : FuncId} {args : Array Value} {w : World} {t : Grew w} {v : Value}
    (h : Calls P f args (grewW w t) (RetB v (grewW w t))) : Calls P f args (grewW w t) fun e w'' => e = .returned v ∧ ∃ m, w'' = grewW w m :=
  h.mono fun _ _ ⟨he, hb⟩ => ⟨he, IsGrew (t.ok.trans (hb.mono t.ok.size))⟩
theorem grew_same {P : Program} {f : FuncId} {args : Array Value} {w : World} {t : Grew w} {v : Value}
    (h : Calls P f args (grewW w t) (Ret v (grewW w t))) : Calls P f args (grewW w t) fun e w'' => e = .returned v ∧ ∃ m, w'' = grewW w m :=
  h.mono fun _ _ ⟨he, hb⟩ => ⟨he, t, hb⟩

/-- The world behind a name. -/
theorem gen_world {P : Program} {c : Code} {Q : Exit → Act → World → Prop} {a : Act} {w : World} (h : ∀ w1, w1 = w → c.wp P Q a w1) : c.wp P Q a w := h w rfl

theorem ownsRow_mono {w : World} {base base' : Nat} {e : TypeId} {size : Nat} {v : Value} {n : Nat} {xs : List Value} (h : w.ownsRow base e size v n xs) (hb : base' ≤ base) : w.ownsRow base' e size v n xs := by
  obtain ⟨h1, h2⟩ := h
  refine ⟨h1, ?_⟩
  rcases h2 with h2 | ⟨g, cap, cur, hv, hg, r⟩
  · exact Or.inl h2
  · exact Or.inr ⟨g, cap, cur, hv, Nat.le_trans hb hg, r⟩

theorem own_below {w w' : World} {base : Nat} {e : TypeId} {size : Nat} {v : Value} {n : Nat} {xs : List Value} (h : w.ownsRow base e size v n xs) (hb : Below w.heap.size w w') : w'.ownsRow base e size v n xs := by
  obtain ⟨h1, h2⟩ := h
  refine ⟨h1, ?_⟩
  rcases h2 with h2 | ⟨g, cap, cur, hv, hg, hh, r⟩
  · exact Or.inl h2
  · refine Or.inr ⟨g, cap, cur, hv, hg, ?_, r⟩
    have hlt : g < w.heap.size := by
      rcases Nat.lt_or_ge g w.heap.size with hlt | hge
      · exact hlt
      · rw [Array.getElem?_eq_none hge] at hh; cases hh
    exact (hb.block g hlt).trans hh

/-- append of one element onto a row of the call's own, the element's slice just made. -/
theorem app_one {P : Program} {ops : Array Oper} {rest : List Oper} {o : Oper} {a : Act} {Q : Exit → Act → World → Prop} (hgd : o.guard = none) (s x : Operand) (t : TypeId)
    (ho : o.op = .call { callee := .builtin .append, args := #[s, x], argTypes := #[t, t] })
    {base : Nat} {e : TypeId} {z : Value} {bytes : Nat} (ht : P.underlying t = some (.slice e)) (hinfo : (P.info? e).map (fun i => (i.zero, i.size, i.bytes)) = some (some z, 1, bytes)) (hzs : z.cells.size = 1)
    {w : World} {v : Value} {n : Nat} {xs : List Value} {u : Value} (hs : a.eval s = v) (hown : w.ownsRow base e 1 v n xs)
    (hx : a.eval x = .slice (some ⟨w.heap.size, 0, none⟩) 1 1) (h1 : u.oneCell' = true) (h63 : n + 1 ≤ maxLen) (hbytes : (n + 1) * bytes ≤ 140737488355328) (hbase : base ≤ w.heap.size)
    (h : ∀ v' w', w'.ownsRow base e 1 v' (n + 1) (xs ++ [u]) → w.grownBy w' v.ownBlock → Below base w w' → wpList P ops Q rest (a.put o.dst v') w') :
    wpList P ops Q (o :: rest) a (w.alloc (.cells #[u] e)) := by
  obtain ⟨i0, hi, hz0, hz1, hz2⟩ := info_parts hinfo
  refine wpList_append_own _ hgd s x t ho base e i0 z 1 bytes ht hi hz0 hz1 hz2 hzs (by omega) v n xs hs (hown.alloc _) ⟨w.heap.size, 0, none⟩ 1 1 [u] hx rfl ?_ ?_ h63 hbytes (by simp; omega) ?_
  · intro j y hj
    rcases j with _ | j
    · simp at hj; subst hj
      simp [Addr.add]
    · simp at hj
  · intro y hy; simp at hy; subst hy; exact h1
  · intro v' w' h2 h3 _
    have hg : w.grownBy w' v.ownBlock := ⟨h3.os, h3.tape, h3.output, Nat.le_trans (by simp) h3.size, fun k hk hne => (h3.block k (by simp; omega) hne).trans (Below.heap_alloc w _ k hk)⟩
    exact h v' w' h2 hg ((Below.refl _ _).grown hg hbase (fun k hk => (hown.lt k hk).1))
end Go.Proofs.Ytjckpammcgeloaa
namespace Go.Proofs.Ytjckpammcgeloaa
open Go.RowKit

theorem info_int : (Try.prog.info? 3).map (fun i => (i.zero, i.size, i.bytes)) = some (some (.int .i64 0), 1, 8) := by kernel_rfl

/-- Number k of a list (0 behind its end). -/
def nth (L : List Int) (k : Nat) : Int := L.getD k 0
theorem nth_eq {L : List Int} {k : Nat} (h : k < L.length) : nth L k = L[k] := by simp [nth, List.getD_eq_getElem?_getD, h]
/-- The address A leads to the numbers L. -/
def IntsAt (w : World) (A : Option Addr) (L : List Int) : Prop :=
  ∀ k, k < L.length → ∃ b off, A = some ⟨b, off, none⟩ ∧ b < w.heap.size ∧ w.cell? ⟨b, off + k, none⟩ = some (.int .i64 (nth L k))
theorem IntsAt.nil (w : World) (A : Option Addr) : IntsAt w A [] := fun k h => absurd h (by simp)
theorem IntsAt.below {w w' : World} {A : Option Addr} {L : List Int} (h : IntsAt w A L) (hb : Below w.heap.size w w') : IntsAt w' A L := fun k hk => by
  obtain ⟨b, off, hA, hlt, hc⟩ := h k hk
  exact ⟨b, off, hA, Nat.lt_of_lt_of_le hlt hb.size, (hb.cell hlt).trans hc⟩
theorem IntsAt.drew {w : World} {A : Option Addr} {L : List Int} (h : IntsAt w A L) (n : Nat) : IntsAt (w.drewN n) A L := h
theorem IntsAt.of_own {w : World} {base : Nat} {v : Value} {L : List Int} {n : Nat} (h : w.ownsRow base 3 1 v n (L.map (Value.int .i64))) (hn : n = L.length) : ∃ A c, v = .slice A L.length c ∧ IntsAt w A L := by
  subst hn
  rcases h.2 with ⟨rfl, h0⟩ | ⟨g, cap, cur, rfl, hg, hh, hnc, hcm, hcs, htk⟩
  · have : L = [] := List.eq_nil_of_length_eq_zero h0
    subst this
    exact ⟨none, 0, rfl, IntsAt.nil _ _⟩
  · refine ⟨some ⟨g, 0, none⟩, cap, rfl, fun k hk => ⟨g, 0, rfl, ?_, ?_⟩⟩
    · rcases Nat.lt_or_ge g w.heap.size with hlt | hge
      · exact hlt
      · rw [Array.getElem?_eq_none hge] at hh; cases hh
    · have := h.cellAt (j := k) (by omega)
      rw [Nat.zero_add, this, List.getElem?_map, nth_eq hk, List.getElem?_eq_getElem hk]
      rfl
theorem IntsAt.len_le {w : World} {base : Nat} {A : Option Addr} {n c : Nat} {xs : List Value} {e : TypeId} (h : w.ownsRow base e 1 (.slice A n c) n xs) : n ≤ maxLen := by
  rcases h.2 with ⟨_, h0⟩ | ⟨g, cap, cur, _, hg, hh, hnc, hcm, hcs, htk⟩
  · omega
  · omega

def modI (n m : Int) : Int := if m < 1 then 0 else n % m
theorem modI_lt (n m : Int) (h : m < 1) : modI n m = 0 := if_pos h
theorem modI_ge (n m : Int) (h : ¬ m < 1) : modI n m = n % m := if_neg h
theorem modI_range (n m : Int) (h : 1 ≤ m) : 0 ≤ modI n m ∧ modI n m < m := by
  rw [modI_ge n m (by omega)]; exact ⟨Int.emod_nonneg _ (by omega), Int.emod_lt_of_pos _ (by omega)⟩
theorem modI_tmod (n m : Int) (h : ¬ m < 1) : n.tmod m % m = modI n m := by
  rw [modI_ge n m h, Int.tmod_def, Int.sub_mul_emod_self_left]
def nextV (R : List Int) (n : Int) : Int := match R with | [] => 0 | x :: _ => modI x n
theorem nextV_range (R : List Int) (n : Int) (h : 1 ≤ n) : 0 ≤ nextV R n ∧ nextV R n < n := by
  cases R with
  | nil => exact ⟨Int.le_refl _, by simp [nextV]; omega⟩
  | cons x R => exact modI_range x n h

set_option maxHeartbeats 400000 in
theorem mod_any (n m : Int) (w : World) (hm : m ≤ 4611686018427387904) :
    Calls Try.prog 25 #[.int .i64 n, .int .i64 m] w (Ret (.int .i64 (modI n m)) w) := by
  by_cases h : m < 1
  · go_enter Try.func25, Try.ntmps25
    go_wp2
    go_ret
    exact Ret.int (modI_lt n m h).symm
  · have h1 := Int.tmod_lt_of_pos n (b := m) (by omega)
    have h2 := Int.lt_tmod_of_pos n (b := m) (by omega)
    have HE := Lib.hid (modI_tmod n m h)
    go_enter Try.func25, Try.ntmps25
    go_wp2
    go_ret
    exact Ret.int HE.out

set_option maxHeartbeats 400000 in
theorem light_any (A : Option Addr) (n c : Nat) (w : World) :
    Calls Try.prog 8 #[.slice A n c] w (Ret (.bool (decide ((n : Int) ≤ 500))) w) := by
  go_enter Try.func8, Try.ntmps8
  go_wp2
  go_ret
  exact Ret.bool rfl

/-- Block D is dice that have the numbers R still to give; what they were made of lies before them. -/
def DiceAt (w : World) (D : Nat) (R : List Int) : Prop :=
  ∃ (A : Option Addr) (c : Nat) (L : List Int) (i : Nat), w.heap[D]? = some (.cells #[.slice A L.length c, .int .i64 i] 59 (0, 0)) ∧ i ≤ L.length ∧ L.length ≤ maxLen ∧ R = L.drop i ∧
    ∀ k, k < L.length → ∃ b off, A = some ⟨b, off, none⟩ ∧ b < D ∧ w.cell? ⟨b, off + k, none⟩ = some (.int .i64 (nth L k))
theorem DiceAt.lt {w : World} {D : Nat} {R : List Int} (h : DiceAt w D R) : D < w.heap.size := by
  obtain ⟨A, c, L, i, hD, _⟩ := h
  rcases Nat.lt_or_ge D w.heap.size with hlt | hge
  · exact hlt
  · rw [Array.getElem?_eq_none hge] at hD; cases hD
/-- Dice stand where nothing up to them has turned. -/
theorem DiceAt.keep {w w' : World} {D : Nat} {R : List Int} (h : DiceAt w D R) (hb : ∀ k, k ≤ D → w'.heap[k]? = w.heap[k]?) : DiceAt w' D R := by
  obtain ⟨A, c, L, i, hD, hi, hl, hR, hc⟩ := h
  refine ⟨A, c, L, i, (hb D (Nat.le_refl _)).trans hD, hi, hl, hR, fun k hk => ?_⟩
  obtain ⟨b, off, hA, hbl, hcell⟩ := hc k hk
  exact ⟨b, off, hA, hbl, (World.cell?_of_block (w := w) (hb b (Nat.le_of_lt hbl))).trans hcell⟩
theorem DiceAt.below {w w' : World} {D : Nat} {R : List Int} (h : DiceAt w D R) (hb : Below w.heap.size w w') : DiceAt w' D R := by
  have hlt := h.lt
  exact h.keep fun k hk => hb.block k (by omega)
theorem DiceAt.setCell {w : World} {D : Nat} {R : List Int} (h : DiceAt w D R) (p : Addr) (v : Value) (hp : D < p.block) : DiceAt (w.setCell p v) D R :=
  h.keep fun k hk => Below.heap_setCell w p v k (by omega)
theorem DiceAt.drewN {w : World} {D : Nat} {R : List Int} (h : DiceAt w D R) (n : Nat) : DiceAt (w.drewN n) D R := h

set_option maxHeartbeats 400000 in
theorem roll_any (A : Option Addr) (L : List Int) (c : Nat) (w : World) (hl : L.length ≤ maxLen) (h : IntsAt w A L) :
    Calls Try.prog 10 #[.slice A L.length c] w
      (fun e w' => ∃ D, e = .returned (.pointer (some ⟨D, 0, none⟩)) ∧ w.heap.size ≤ D ∧ DiceAt w' D L ∧ Below w.heap.size w w') := by
  go_enter Try.func10, Try.ntmps10
  go_wp2
  go_ret
  refine ⟨_, rfl, Nat.le_refl _, ⟨A, c, L, 0, ?_, Nat.zero_le _, hl, rfl, fun k hk => ?_⟩, (Below.refl _ _).alloc (Nat.le_refl _) _⟩
  · exact heap_alloc_new w _
  · obtain ⟨b, off, hA, hlt, hc⟩ := h k hk
    refine ⟨b, off, hA, hlt, ?_⟩
    rw [World.cell?_alloc_past _ _ _ hlt]; exact hc

/-- What dice leave of memory: their own block alone turns, and new blocks come. -/
def NextP (D : Nat) (x : Int) (R : List Int) (w : World) (e : Ending) (w' : World) : Prop := e = .returned (.int .i64 x) ∧ DiceAt w' D R ∧ w.grownBy w' (some D)

theorem nextV_drop {L : List Int} {i : Nat} (n : Int) (hk : i < L.length) : modI (nth L i) n = nextV (L.drop i) n := by
  rw [List.drop_eq_getElem_cons hk]; simp [nextV, nth_eq hk]
theorem dice_step {w : World} {D : Nat} {A : Option Addr} {c : Nat} {L : List Int} {i : Nat} {R : List Int} (n : Int) (a b : Nat)
    (hD : w.heap[D]? = some (.cells #[.slice A L.length c, .int .i64 i] 59 (0, 0))) (hk : i < L.length) (hl : L.length ≤ maxLen) (hR : R = L.drop i)
    (hc : ∀ k, k < L.length → ∃ b off, A = some ⟨b, off, none⟩ ∧ b < D ∧ w.cell? ⟨b, off + k, none⟩ = some (.int .i64 (nth L k))) :
    NextP D (nextV R n) R.tail w (.returned (.int .i64 (modI (nth L i) n))) (((w.drewN a).setCell ⟨D, 1, none⟩ (.int .i64 ((i : Int) + 1))).drewN b) := by
  subst hR
  refine ⟨by rw [nextV_drop n hk], ⟨A, c, L, i + 1, ?_, hk, hl, by simp, fun k hk => ?_⟩, ⟨rfl, rfl, rfl, by simp [World.setCell], fun k hk hne => ?_⟩⟩
  · simp [World.setCell, Array.getElem?_modify, hD]
  · obtain ⟨b', off, hA, hlt, hcell⟩ := hc k hk
    refine ⟨b', off, hA, hlt, ?_⟩
    rw [World.cell?_drewN, World.cell?_setCell_other _ _ _ _ (fun e => by injection e with e1; omega)]
    exact hcell
  · exact Below.heap_setCell (w.drewN a) ⟨D, 1, none⟩ _ k (fun e => hne (by rw [e]))

set_option maxHeartbeats 400000 in
theorem next_any (D : Nat) (R : List Int) (n : Int) (w : World) (h : DiceAt w D R) (hn : n ≤ 4611686018427387904) :
    Calls Try.prog 12 #[.pointer (some ⟨D, 0, none⟩), .int .i64 n] w (NextP D (nextV R n) R.tail w) := by
  have hlt := h.lt
  obtain ⟨A, c, L, i, hD, hi, hl, hR, hc⟩ := h
  unfold maxLen at hl
  have c0 := cell_of_row w D 0 _ _ (0, 0) hD
  have c1 := cell_of_row w D 1 _ _ (0, 0) hD
  have f1 : w.frozen? ⟨D, 1, none⟩ = false := by simp [World.frozen?, hD]
  simp at c0 c1
  by_cases hk : i < L.length
  · obtain ⟨b, off, rfl, hbl, hcell⟩ := hc i hk
    have HS := Lib.hid (fun a b => dice_step (R := R) n a b hD hk hl hR hc)
    clear hD hR hc
    go_enter Try.func12, Try.ntmps12
    go_wp2
    go_quiet (fail)
    go_wp2
    have hne' : ¬ (⟨D, 1, none⟩ : Addr) = ⟨b, off + i, none⟩ := fun e => by injection e with e1; omega
    have hcell' : ((w.drewN nq).setCell ⟨D, 1, none⟩ (.int .i64 ((i : Int) + 1))).cell? ⟨b, off + i, none⟩ = some (.int .i64 (nth L i)) := by
      rw [World.cell?_setCell_other _ _ _ _ hne']; exact hcell
    go_quiet ((go_at_call 25; exact Calls.quiet_of_same (mod_any _ _ _ hn)))
    go_wp2
    go_ret
    exact HS.out _ _
  · have HS : Hid (∀ a, NextP D (nextV R n) R.tail w (.returned (.int .i64 0)) (w.drewN a)) := fun a => by
      have hn : R = [] := by rw [hR, List.drop_eq_nil_of_le (by omega)]
      subst hn
      refine ⟨rfl, ?_, ⟨rfl, rfl, rfl, Nat.le_refl _, fun _ _ _ => rfl⟩⟩
      exact ⟨A, c, L, i, hD, hi, hl, by simpa using hR, hc⟩
    clear hD hR hc
    go_enter Try.func12, Try.ntmps12
    go_wp2
    go_quiet (fail)
    go_wp2
    go_ret
    exact HS.out _

def sameL (L M : List Int) : Bool := decide (L = M)
theorem sameL_len {L M : List Int} (h : L.length ≠ M.length) : false = sameL L M := by
  simp only [sameL]; exact (decide_eq_false (fun e => h (by rw [e]))).symm
theorem sameL_at {L M : List Int} (k : Nat) (h : nth L k ≠ nth M k) : false = sameL L M := by
  simp only [sameL]; exact (decide_eq_false (fun e => h (by rw [e]))).symm
theorem sameL_all {L M : List Int} (hl : L.length = M.length) (h : L.take L.length = M.take L.length) : true = sameL L M := by
  simp only [sameL]; refine (decide_eq_true ?_).symm
  rw [List.take_length, hl, List.take_length] at h; exact h
theorem take_snoc_getD (L : List Int) (k : Nat) (h : k < L.length) : L.take (k + 1) = L.take k ++ [nth L k] := by
  rw [List.take_succ_eq_append_getElem h, nth_eq h]

end Go.Proofs.Ytjckpammcgeloaa
namespace Go.Proofs.Ytjckpammcgeloaa
open Go.RowKit

/-- Block g is just the numbers cs. -/
def IntBlk (w : World) (g : Nat) (cs : List Int) : Prop := w.heap[g]? = some (.cells (cs.map (Value.int .i64)).toArray 3 (0, 0))
theorem IntBlk.lt {w : World} {g : Nat} {cs : List Int} (h : IntBlk w g cs) : g < w.heap.size := by
  rcases Nat.lt_or_ge g w.heap.size with hlt | hge
  · exact hlt
  · unfold IntBlk at h; rw [Array.getElem?_eq_none hge] at h; cases h
theorem IntBlk.cell {w : World} {g : Nat} {cs : List Int} (h : IntBlk w g cs) (j : Nat) (hj : j < cs.length) : w.cell? ⟨g, j, none⟩ = some (.int .i64 (nth cs j)) := by
  rw [cell_of_row w g j _ _ (0, 0) h, nth_eq hj]; simp [hj]
theorem IntBlk.frozen {w : World} {g : Nat} {cs : List Int} (h : IntBlk w g cs) (j : Nat) : w.frozen? ⟨g, j, none⟩ = false := by
  unfold IntBlk at h; simp [World.frozen?, h]
theorem IntBlk.set_ {w : World} {g : Nat} {cs : List Int} (h : IntBlk w g cs) (j : Nat) (x : Int) : IntBlk (w.setCell ⟨g, j, none⟩ (.int .i64 x)) g (cs.set j x) := by
  unfold IntBlk at h ⊢
  simp [World.setCell, Array.getElem?_modify, h, List.map_set]
theorem IntBlk.drew {w : World} {g : Nat} {cs : List Int} (h : IntBlk w g cs) (n : Nat) : IntBlk (w.drewN n) g cs := h
theorem IntBlk.below {w w' : World} {g : Nat} {cs : List Int} (h : IntBlk w g cs) (hb : Below w.heap.size w w') : IntBlk w' g cs := (hb.block g h.lt).trans h
theorem IntBlk.ints {w : World} {g : Nat} {cs : List Int} (h : IntBlk w g cs) : IntsAt w (some ⟨g, 0, none⟩) cs := fun k hk =>
  ⟨g, 0, rfl, h.lt, by rw [Nat.zero_add]; exact h.cell k hk⟩
theorem IntBlk.of_own {w : World} {base g n : Nat} {L : List Int} (h : w.ownsRow base 3 1 (.slice (some ⟨g, 0, none⟩) n n) n (L.map (Value.int .i64))) : IntBlk w g L := by
  rcases h.2 with ⟨h0, _⟩ | ⟨g', cap, cur, hv, hg, hh, hnc, hcm, hcs, htk⟩
  · cases h0
  · injection hv with h1 h2 h3
    injection h1 with h1
    injection h1 with h1
    subst h1; subst h3
    unfold IntBlk
    rw [hh, ← htk, Nat.mul_one, List.take_of_length_le (by simp; omega)]
theorem below_drewN {B : Nat} {a w : World} (h : Below B a w) (n : Nat) : Below B a (w.drewN n) := ⟨h.os, h.tape, h.output, h.size, h.block⟩
theorem below_trans {w w1 w2 : World} (h1 : Below w.heap.size w w1) (h2 : Below w1.heap.size w1 w2) : Below w.heap.size w w2 := h1.trans (h2.mono h1.size)
theorem nth_set_same (cs : List Int) (j : Nat) (x : Int) (h : j < cs.length) : nth (cs.set j x) j = x := by
  rw [nth_eq (by simpa using h)]; simp
theorem nth_set_other (cs : List Int) (j k : Nat) (x : Int) (h : j ≠ k) : nth (cs.set j x) k = nth cs k := by
  simp [nth, List.getD_eq_getElem?_getD, h]
theorem nth_replicate (n k : Nat) : nth (List.replicate n 0) k = 0 := by
  simp only [nth, List.getD_eq_getElem?_getD, List.getElem?_replicate]; split <;> rfl
theorem list_ext_nth {L M : List Int} (hl : L.length = M.length) (h : ∀ k, k < L.length → nth L k = nth M k) : L = M := by
  refine List.ext_getElem hl fun k h1 h2 => ?_
  rw [← nth_eq h1, ← nth_eq h2]; exact h k h1

/-- make of n numbers. -/
theorem make_ints {ops : Array Oper} {rest : List Oper} {o : Oper} {a : Act} {Q : Exit → Act → World → Prop} (hg : o.guard = none) (l c : Operand) (hop : o.op = Op.makeSlice 22 l c)
    {w : World} {m : Int} (n : Nat) (hl : a.eval l = .int .i64 m) (hc : a.eval c = .int .i64 m) (hm : m = (n : Int)) (hn : n ≤ 1099511627776)
    (hK : ∀ w', IntBlk w' w.heap.size (List.replicate n 0) → Below w.heap.size w w' → wpList Try.prog ops Q rest (a.put o.dst (.slice (some ⟨w.heap.size, 0, none⟩) n n)) w') :
    wpList Try.prog ops Q (o :: rest) a w := by
  obtain ⟨i0, hi, hz0, hz1, hz2⟩ := info_parts info_int
  refine wpList_make_full w hg l c 22 hop w.heap.size 3 i0 _ 1 Try.underlying22 hi hz0 hz1 .i64 .i64 m m n hl hc hm hm (by rw [hz2]; omega) (by simp only [maxLen]; omega) (Nat.le_refl _) ?_
  intro w' hown hgr
  refine hK w' ?_ ⟨hgr.os, hgr.tape, hgr.output, hgr.size, fun k hk => hgr.block k hk (by simp)⟩
  rw [Nat.mul_one, show (Value.int .i64 0).cells = #[Value.int .i64 0] from rfl, toList_madeCells_one, ← List.map_replicate] at hown
  exact IntBlk.of_own hown

theorem ret_pure {P : Program} {f : FuncId} {args : Array Value} {w : World} {v : Value} {R : Ending → World → Prop} (h : Calls P f args w (Ret v w)) (hr : R (.returned v) w) : Calls P f args w R :=
  h.mono (by rintro e w1 ⟨rfl, rfl⟩; exact hr)
theorem ret_below {P : Program} {f : FuncId} {args : Array Value} {w : World} {v : Value} {R : Ending → World → Prop} (h : Calls P f args w (RetB v w)) (hr : ∀ w', Below w.heap.size w w' → R (.returned v) w') : Calls P f args w R :=
  h.mono (by rintro e w1 ⟨rfl, hb⟩; exact hr w1 hb)

/-! ### Dice -/
theorem dice_of_below {w w' : World} {D : Nat} {R : List Int} (h : DiceAt w D R) (hb : Below w.heap.size w w') : DiceAt w' D R := h.below hb
/-- A slice stands while dice are thrown, if it does not lie in the dice. -/
theorem IntsAt.grown {w w' : World} {A : Option Addr} {L : List Int} {D : Nat} (h : IntsAt w A L) (hg : w.grownBy w' (some D)) (hD : ∀ b off, A = some ⟨b, off, none⟩ → b ≠ D) : IntsAt w' A L := fun k hk => by
  obtain ⟨b, off, hA, hlt, hc⟩ := h k hk
  exact ⟨b, off, hA, Nat.lt_of_lt_of_le hlt hg.size, (World.cell?_of_block (w := w) (hg.block b hlt (by intro e; injection e with e; exact hD b off hA e))).trans hc⟩
theorem grown_cell {w w' : World} {D : Nat} (hg : w.grownBy w' (some D)) (b o : Nat) (hb : b < w.heap.size) (hne : b ≠ D) : w'.cell? ⟨b, o, none⟩ = w.cell? ⟨b, o, none⟩ :=
  World.cell?_of_block (w := w) (hg.block b hb (by intro e; injection e with e; exact hne e))
theorem grown_below {w w' : World} {D B : Nat} (hg : w.grownBy w' (some D)) (hB : B ≤ D) (hBs : B ≤ w.heap.size) : Below B w w' :=
  ⟨hg.os, hg.tape, hg.output, hg.size, fun k hk => hg.block k (by omega) (by intro e; injection e with e; omega)⟩
theorem grown_of_below {w w' : World} {r : Option Nat} (h : Below w.heap.size w w') : w.grownBy w' r := ⟨h.os, h.tape, h.output, h.size, fun k hk _ => h.block k hk⟩
theorem grown_trans {w w1 w2 : World} {r : Option Nat} (h1 : w.grownBy w1 r) (h2 : w1.grownBy w2 r) : w.grownBy w2 r :=
  ⟨h2.os.trans h1.os, h2.tape.trans h1.tape, h2.output.trans h1.output, Nat.le_trans h1.size h2.size, fun k hk hne => (h2.block k (Nat.lt_of_lt_of_le hk h1.size) hne).trans (h1.block k hk hne)⟩
theorem lit_ints (w : World) (L : List Int) : IntsAt (w.alloc (.cells (L.map (Value.int .i64)).toArray 3)) (some ⟨w.heap.size, 0, none⟩) L :=
  IntBlk.ints (heap_alloc_new w _)
theorem below_alloc (w : World) (o : Obj) : Below w.heap.size w (w.alloc o) := (Below.refl _ _).alloc (Nat.le_refl _) _
theorem DiceAt.alloc {w : World} {D : Nat} {R : List Int} (h : DiceAt w D R) (o : Obj) : DiceAt (w.alloc o) D R := h.below (below_alloc w o)

end Go.Proofs.Ytjckpammcgeloaa
namespace Go.Proofs.Ytjckpammcgeloaa
open Go.RowKit

/-- What the elements of one type are in memory: so many cells each. -/
structure El (α : Type) where
  n : Nat
  f : α → List Value
  len : ∀ x, (f x).length = n
  one : ∀ x, ∀ u ∈ f x, u.oneCell' = true
  pos : 0 < n
def El.flat {α : Type} (E : El α) : List α → List Value
  | [] => []
  | x :: L => E.f x ++ El.flat E L
theorem El.flat_len {α : Type} (E : El α) : ∀ L : List α, (E.flat L).length = L.length * E.n
  | [] => by simp [El.flat]
  | x :: L => by simp only [El.flat, List.length_append, E.len, El.flat_len E L, List.length_cons, Nat.succ_mul]; omega
theorem El.flat_append {α : Type} (E : El α) : ∀ L M : List α, E.flat (L ++ M) = E.flat L ++ E.flat M
  | [], M => rfl
  | x :: L, M => by simp only [List.cons_append, El.flat, El.flat_append E L M, List.append_assoc]
theorem El.flat_one {α : Type} (E : El α) : ∀ L : List α, ∀ u ∈ E.flat L, u.oneCell' = true
  | [], u, h => by cases h
  | x :: L, u, h => by
    simp only [El.flat, List.mem_append] at h
    rcases h with h | h
    · exact E.one x u h
    · exact El.flat_one E L u h
theorem El.flat_at {α : Type} (E : El α) : ∀ (L : List α) (k : Nat) (x : α), L[k]? = some x → ∀ j, j < E.n → (E.flat L)[k * E.n + j]? = (E.f x)[j]?
  | [], k, x, h, j, _ => by simp at h
  | y :: L, 0, x, h, j, hj => by
    simp only [List.getElem?_cons_zero, Option.some.injEq] at h
    subst h
    rw [Nat.zero_mul, Nat.zero_add, El.flat, List.getElem?_append_left (by rw [E.len]; exact hj)]
  | y :: L, k + 1, x, h, j, hj => by
    rw [List.getElem?_cons_succ] at h
    rw [El.flat, List.getElem?_append_right (by rw [E.len, Nat.succ_mul]; omega), E.len, Nat.succ_mul]
    rw [show k * E.n + E.n + j - E.n = k * E.n + j by omega]
    exact El.flat_at E L k x h j hj
/-- The address A leads to the elements L. -/
def ElAt {α : Type} (E : El α) (w : World) (A : Option Addr) (L : List α) : Prop :=
  ∀ k x, L[k]? = some x → ∃ b off, A = some ⟨b, off, none⟩ ∧ b < w.heap.size ∧ ∀ j, j < E.n → w.cell? ⟨b, off + k * E.n + j, none⟩ = (E.f x)[j]?
theorem ElAt.nil {α : Type} (E : El α) (w : World) (A : Option Addr) : ElAt E w A [] := fun k x h => by simp at h
theorem ElAt.below {α : Type} {E : El α} {w w' : World} {A : Option Addr} {L : List α} (h : ElAt E w A L) (hb : Below w.heap.size w w') : ElAt E w' A L := fun k x hk => by
  obtain ⟨b, off, hA, hlt, hc⟩ := h k x hk
  exact ⟨b, off, hA, Nat.lt_of_lt_of_le hlt hb.size, fun j hj => (hb.cell hlt).trans (hc j hj)⟩
theorem ElAt.alloc {α : Type} {E : El α} {w : World} {A : Option Addr} {L : List α} (h : ElAt E w A L) (o : Obj) : ElAt E (w.alloc o) A L := h.below (below_alloc w o)
theorem ElAt.drewN {α : Type} {E : El α} {w : World} {A : Option Addr} {L : List α} (h : ElAt E w A L) (n : Nat) : ElAt E (w.drewN n) A L := h
theorem ElAt.grown {α : Type} {E : El α} {w w' : World} {A : Option Addr} {L : List α} {D : Nat} (h : ElAt E w A L) (hg : w.grownBy w' (some D)) (hD : ∀ b off, A = some ⟨b, off, none⟩ → b ≠ D) : ElAt E w' A L := fun k x hk => by
  obtain ⟨b, off, hA, hlt, hc⟩ := h k x hk
  exact ⟨b, off, hA, Nat.lt_of_lt_of_le hlt hg.size, fun j hj => (grown_cell hg b _ hlt (hD b off hA)).trans (hc j hj)⟩
/-- The call's own slice of elements. -/
def ElOwn {α : Type} (E : El α) (ty : TypeId) (w : World) (base : Nat) (v : Value) (L : List α) : Prop := w.ownsRow base ty E.n v L.length (E.flat L)
theorem blk_ltE {w : World} {x : Nat} {o : Obj} (h : w.heap[x]? = some o) : x < w.heap.size := by
  rcases Nat.lt_or_ge x w.heap.size with hlt | hge
  · exact hlt
  · rw [Array.getElem?_eq_none hge] at h; cases h
theorem ElOwn.at_ {α : Type} {E : El α} {ty : TypeId} {w : World} {base : Nat} {v : Value} {L : List α} (h : ElOwn E ty w base v L) :
    ∃ A c, v = .slice A L.length c ∧ ElAt E w A L ∧ (A = none → L.length = 0 ∧ c = 0) ∧ (∀ a, A = some a → a.off = 0 ∧ a.spot = none ∧ base ≤ a.block ∧ a.block < w.heap.size) ∧ L.length ≤ c ∧ c ≤ maxLen := by
  rcases h.2 with ⟨rfl, h0⟩ | ⟨g, cap, cur, rfl, hg, hh, hnc, hcm, hcs, htk⟩
  · have : L = [] := List.eq_nil_of_length_eq_zero h0
    subst this
    exact ⟨none, 0, rfl, ElAt.nil _ _ _, fun _ => ⟨rfl, rfl⟩, fun a e => (by cases e), Nat.le_refl _, Nat.zero_le _⟩
  · have hlt : g < w.heap.size := blk_ltE hh
    refine ⟨some ⟨g, 0, none⟩, cap, rfl, fun k x hk => ?_, fun e => (by cases e), fun a e => (by injection e with e; subst e; exact ⟨rfl, rfl, hg, hlt⟩), hnc, hcm⟩
    have hkl : k < L.length := by
      rcases Nat.lt_or_ge k L.length with h1 | h1
      · exact h1
      · rw [List.getElem?_eq_none h1] at hk; cases hk
    refine ⟨g, 0, rfl, hlt, fun j hj => ?_⟩
    have hm : (k + 1) * E.n ≤ L.length * E.n := Nat.mul_le_mul_right _ hkl
    rw [Nat.succ_mul] at hm
    rw [Nat.zero_add, h.cellAt (j := k * E.n + j) (by omega)]
    exact E.flat_at L k x hk j hj
theorem ElOwn.below {α : Type} {E : El α} {ty : TypeId} {w w' : World} {base : Nat} {v : Value} {L : List α} (h : ElOwn E ty w base v L) (hb : Below w.heap.size w w') : ElOwn E ty w' base v L := own_below h hb
theorem ElOwn.alloc {α : Type} {E : El α} {ty : TypeId} {w : World} {base : Nat} {v : Value} {L : List α} (h : ElOwn E ty w base v L) (o : Obj) : ElOwn E ty (w.alloc o) base v L := own_below h (below_alloc w o)
theorem ElOwn.mono {α : Type} {E : El α} {ty : TypeId} {w : World} {base base' : Nat} {v : Value} {L : List α} (h : ElOwn E ty w base v L) (hb : base' ≤ base) : ElOwn E ty w base' v L := ownsRow_mono h hb
theorem ElOwn.nil {α : Type} (E : El α) (ty : TypeId) (w : World) (base : Nat) : ElOwn E ty w base (.slice none 0 0) [] := ⟨by simp [El.flat], .inl ⟨rfl, rfl⟩⟩
theorem ElOwn.grown {α : Type} {E : El α} {ty : TypeId} {w w' : World} {base D : Nat} {v : Value} {L : List α} (h : ElOwn E ty w base v L) (hg : w.grownBy w' (some D)) (hD : D < base) : ElOwn E ty w' base v L := by
  obtain ⟨h1, h2⟩ := h
  refine ⟨h1, ?_⟩
  rcases h2 with h2 | ⟨g, cap, cur, hv, hgb, hh, r⟩
  · exact .inl h2
  · exact .inr ⟨g, cap, cur, hv, hgb, (hg.block g (blk_ltE hh) (fun e => by injection e with e; omega)).trans hh, r⟩
theorem ElOwn.kept {α : Type} {E : El α} {ty : TypeId} {w w' : World} {base : Nat} {v : Value} {L : List α} (h : ElOwn E ty w base v L) (hk : ∀ k, v.ownBlock = some k → w'.heap[k]? = w.heap[k]?) : ElOwn E ty w' base v L := by
  obtain ⟨h1, h2⟩ := h
  refine ⟨h1, ?_⟩
  rcases h2 with h2 | ⟨g, cap, cur, hv, hgb, hh, r⟩
  · exact .inl h2
  · exact .inr ⟨g, cap, cur, hv, hgb, (hk g (by rw [hv]; rfl)).trans hh, r⟩
theorem ElOwn.set_ {α : Type} {E : El α} {ty : TypeId} {w : World} {base : Nat} {v : Value} {L : List α} (h : ElOwn E ty w base v L) (p : Addr) (u : Value) (hp : p.block < base) : ElOwn E ty (w.setCell p u) base v L :=
  h.kept fun k hk => Below.heap_setCell w p u k (by have := (World.ownsRow.lt h k hk).1; omega)
theorem ElAt.lit {α : Type} (E : El α) (w : World) (x : α) (ty : TypeId) : ElAt E (w.alloc (.cells (E.f x).toArray ty)) (some ⟨w.heap.size, 0, none⟩) [x] := fun k y hk => by
  rcases k with _ | k
  · simp only [List.getElem?_cons_zero, Option.some.injEq] at hk
    subst hk
    refine ⟨_, _, rfl, by simp, fun j hj => ?_⟩
    have h := heap_alloc_new w (.cells (E.f x).toArray ty)
    rw [Nat.zero_add, Nat.zero_mul, Nat.zero_add, cell_of_row _ _ j _ _ (0, 0) h]
    simp
  · simp at hk
theorem ElAt.news {α : Type} {E : El α} {w : World} {b off : Nat} {L : List α} (h : ElAt E w (some ⟨b, off, none⟩) L) : ∀ j u, (E.flat L)[j]? = some u → w.cell? ((⟨b, off, none⟩ : Addr).add j) = some u := fun j u hu => by
  have hj : j < L.length * E.n := by
    rcases Nat.lt_or_ge j (E.flat L).length with h1 | h1
    · rw [E.flat_len] at h1; exact h1
    · rw [List.getElem?_eq_none h1] at hu; cases hu
  have hk : j / E.n < L.length := (Nat.div_lt_iff_lt_mul E.pos).2 hj
  have hr : j % E.n < E.n := Nat.mod_lt _ E.pos
  have hjj : j / E.n * E.n + j % E.n = j := by rw [Nat.mul_comm]; exact Nat.div_add_mod j E.n
  obtain ⟨b', off', e, _, hc⟩ := h (j / E.n) L[j / E.n] (List.getElem?_eq_getElem hk)
  injection e with e
  injection e with e1 e2
  subst e1; subst e2
  have e : (⟨b, off, none⟩ : Addr).add j = ⟨b, off + j, none⟩ := by
    unfold Addr.add; split
    · rename_i h; subst h; rfl
    · rfl
  have h2 := E.flat_at L (j / E.n) L[j / E.n] (List.getElem?_eq_getElem hk) (j % E.n) hr
  rw [hjj] at h2
  have h3 := hc (j % E.n) hr
  rw [show off + j / E.n * E.n + j % E.n = off + j by omega] at h3
  rw [e, h3, ← h2, hu]
theorem ElAt.newsA {α : Type} {E : El α} {w : World} {a : Addr} {L : List α} (h : ElAt E w (some a) L) (hA : a.spot = none ∨ L.length = 0) : ∀ j u, (E.flat L)[j]? = some u → w.cell? (a.add j) = some u := fun j u hu => by
  rcases hA with hA | hA
  · obtain ⟨b, off, spot⟩ := a
    have hA : spot = none := hA
    subst hA
    exact h.news j u hu
  · have : L = [] := List.eq_nil_of_length_eq_zero hA
    subst this
    simp [El.flat] at hu
/-- append of a slice of elements onto one of the call's own. -/
theorem app_els {α : Type} (E : El α) {t ty : TypeId} {z : Value} {bytes : Nat} (ht : Try.prog.underlying t = some (.slice ty)) (hinfo : (Try.prog.info? ty).map (fun i => (i.zero, i.size, i.bytes)) = some (some z, E.n, bytes)) (hzs : z.cells.size = E.n)
    {ops : Array Oper} {rest : List Oper} {o : Oper} {a : Act} {Q : Exit → Act → World → Prop} (hgd : o.guard = none) (s x : Operand)
    (ho : o.op = .call { callee := .builtin .append, args := #[s, x], argTypes := #[t, t] })
    {base : Nat} {w : World} {v : Value} {S T : List α} {ad : Addr} {c : Nat} (hs : a.eval s = v) (hown : ElOwn E ty w base v S)
    (hx : a.eval x = .slice (some ad) T.length c) (hT : ∀ j u, (E.flat T)[j]? = some u → w.cell? (ad.add j) = some u) (hl : S.length + T.length ≤ 1000000) (hb : bytes ≤ 1000) (hbase : base ≤ w.heap.size)
    (h : ∀ v' w', ElOwn E ty w' base v' (S ++ T) → w.grownBy w' v.ownBlock → Below base w w' → wpList Try.prog ops Q rest (a.put o.dst v') w') :
    wpList Try.prog ops Q (o :: rest) a w := by
  obtain ⟨i0, hi, hz0, hz1, hz2⟩ := info_parts hinfo
  have hbb : (S.length + T.length) * bytes ≤ 1000000 * 1000 := Nat.mul_le_mul hl hb
  refine wpList_append_own w hgd s x t ho base ty i0 z E.n bytes ht hi hz0 hz1 hz2 hzs E.pos v S.length (E.flat S) hs hown _ T.length c (E.flat T) hx (E.flat_len T) hT (E.flat_one T) (by unfold maxLen; omega) (by omega) hbase ?_
  intro v' w' h2 h3 _
  refine h v' w' ?_ h3 ((Below.refl _ _).grown h3 hbase (fun k hk => (World.ownsRow.lt hown k hk).1))
  unfold ElOwn; rw [List.length_append, E.flat_append]; exact h2
/-- append of one element onto a slice of the call's own. -/
theorem app_el {α : Type} (E : El α) {t ty : TypeId} {z : Value} {bytes : Nat} (ht : Try.prog.underlying t = some (.slice ty)) (hinfo : (Try.prog.info? ty).map (fun i => (i.zero, i.size, i.bytes)) = some (some z, E.n, bytes)) (hzs : z.cells.size = E.n)
    {ops : Array Oper} {rest : List Oper} {o : Oper} {a : Act} {Q : Exit → Act → World → Prop} (hgd : o.guard = none) (s x : Operand)
    (ho : o.op = .call { callee := .builtin .append, args := #[s, x], argTypes := #[t, t] })
    {base : Nat} {w : World} {v : Value} {S : List α} (y : α) {C : Array Value} (hC : C = (E.f y).toArray) (hs : a.eval s = v) (hown : ElOwn E ty w base v S)
    (hx : a.eval x = .slice (some ⟨w.heap.size, 0, none⟩) 1 1) (hl : S.length + 1 ≤ 1000000) (hb : bytes ≤ 1000) (hbase : base ≤ w.heap.size)
    (h : ∀ v' w', ElOwn E ty w' base v' (S ++ [y]) → w.grownBy w' v.ownBlock → Below base w w' → wpList Try.prog ops Q rest (a.put o.dst v') w') :
    wpList Try.prog ops Q (o :: rest) a (w.alloc (.cells C ty)) := by
  subst hC
  refine app_els E ht hinfo hzs hgd s x ho (S := S) (T := [y]) (base := base) hs (hown.alloc _) hx (ElAt.lit E w y ty).news hl hb (by simp; omega) ?_
  intro v' w' h2 h3 hb2
  have hg : w.grownBy w' v.ownBlock := ⟨h3.os, h3.tape, h3.output, Nat.le_trans (by simp) h3.size, fun k hk hne => (h3.block k (by simp; omega) hne).trans (Below.heap_alloc w _ k hk)⟩
  exact h v' w' h2 hg (((Below.refl _ _).alloc hbase _).trans hb2)
end Go.Proofs.Ytjckpammcgeloaa
namespace Go.Proofs.Ytjckpammcgeloaa
open Go.RowKit

/-- A slice's address, capacity and length fit. -/
structure SlI (A : Option Addr) (c n : Nat) : Prop where
  len : n ≤ c
  cap : c ≤ maxLen
  nil : A = none → c = 0
  spot : n = 0 ∨ ∀ a, A = some a → a.spot = none
theorem SlI.none0 : SlI none 0 0 := ⟨Nat.le_refl _, Nat.zero_le _, fun _ => rfl, .inl rfl⟩
/-- All blocks that satisfy P stand. -/
structure Kpt (P : Nat → Prop) (w w' : World) : Prop where
  size : w.heap.size ≤ w'.heap.size
  block : ∀ b, P b → b < w.heap.size → w'.heap[b]? = w.heap[b]?
theorem Kpt.below {P : Nat → Prop} {w w' : World} (hb : Below w.heap.size w w') : Kpt P w w' := ⟨hb.size, fun b _ h => hb.block b h⟩
theorem Kpt.belowB {B : Nat} {P : Nat → Prop} {w w' : World} (hb : Below B w w') (hP : ∀ b, P b → b < B) : Kpt P w w' := ⟨hb.size, fun b h _ => hb.block b (hP b h)⟩
theorem Kpt.grown {P : Nat → Prop} {w w' : World} {r : Option Nat} (hg : w.grownBy w' r) (hP : ∀ b, P b → r ≠ some b) : Kpt P w w' := ⟨hg.size, fun b hb h => hg.block b h (fun e => hP b hb e.symm)⟩
theorem Kpt.set {P : Nat → Prop} (w : World) (p : Addr) (u : Value) (hP : ∀ b, P b → b ≠ p.block) : Kpt P w (w.setCell p u) := ⟨by simp [World.setCell], fun b hb _ => Below.heap_setCell w p u b (hP b hb)⟩
theorem Kpt.trans {P : Nat → Prop} {w w1 w2 : World} (h : Kpt P w w1) (g : Kpt P w1 w2) : Kpt P w w2 := ⟨Nat.le_trans h.size g.size, fun b hP hb => (g.block b hP (Nat.lt_of_lt_of_le hb h.size)).trans (h.block b hP hb)⟩
theorem Kpt.mono {P Q : Nat → Prop} {w w' : World} (h : Kpt P w w') (hPQ : ∀ b, Q b → P b) : Kpt Q w w' := ⟨h.size, fun b hb hlt => h.block b (hPQ b hb) hlt⟩
/-- A slice of elements that can be read; the block that it lies in satisfies P. -/
structure ElP {α : Type} (E : El α) (P : Nat → Prop) (w : World) (A : Option Addr) (c : Nat) (L : List α) : Prop where
  at_ : ElAt E w A L
  ok : SlI A c L.length
  off : ∀ b off, A = some ⟨b, off, none⟩ → L.length = 0 ∨ P b
section
variable {α : Type} {E : El α} {P Q : Nat → Prop} {w w' : World} {A : Option Addr} {c : Nat} {L : List α}
theorem ElP.nil (E : El α) (P : Nat → Prop) (w : World) : ElP E P w none 0 [] := ⟨ElAt.nil _ _ _, SlI.none0, fun b off e => by cases e⟩
theorem ElP.keep (h : ElP E P w A c L) (hk : Kpt P w w') : ElP E P w' A c L := ⟨fun k x hx => by
  obtain ⟨b, off, hA, hlt, hc⟩ := h.at_ k x hx
  have hPb : P b := (h.off b off hA).elim (fun e => by rw [List.getElem?_eq_none (by omega)] at hx; cases hx) id
  exact ⟨b, off, hA, Nat.lt_of_lt_of_le hlt hk.size, fun j hj => (World.cell?_of_block (w := w) (hk.block b hPb hlt)).trans (hc j hj)⟩, h.ok, h.off⟩
theorem ElP.below (h : ElP E P w A c L) (hb : Below w.heap.size w w') : ElP E P w' A c L := h.keep (Kpt.below hb)
theorem ElP.mono (h : ElP E P w A c L) (hPQ : ∀ b, b < w.heap.size → P b → Q b) : ElP E Q w A c L := ⟨h.at_, h.ok, fun b off e => by
  rcases h.off b off e with h0 | hP
  · exact .inl h0
  · rcases Nat.eq_zero_or_pos L.length with h0 | h0
    · exact .inl h0
    · obtain ⟨b', off', e', hlt, _⟩ := h.at_ 0 (L[0]) (List.getElem?_eq_getElem h0)
      rw [e] at e'; injection e' with e'; injection e' with e1; subst e1
      exact .inr (hPQ b hlt hP)⟩
theorem ElP.any (h : ElP E P w A c L) : ElP E (fun _ => True) w A c L := h.mono fun _ _ _ => trivial
/-- One element. -/
theorem ElP.one (h : ElP E P w A c L) {k : Nat} {x : α} (hx : L[k]? = some x) : ∃ b off, A = some ⟨b, off, none⟩ ∧ b < w.heap.size ∧ P b ∧ ∀ j, j < E.n → w.cell? ⟨b, off + k * E.n + j, none⟩ = (E.f x)[j]? := by
  obtain ⟨b, off, hA, hlt, hc⟩ := h.at_ k x hx
  have hPb : P b := (h.off b off hA).elim (fun e => by rw [List.getElem?_eq_none (by omega)] at hx; cases hx) id
  exact ⟨b, off, hA, hlt, hPb, hc⟩
theorem ElOwn.toP {ty : TypeId} {base : Nat} {v : Value} (h : ElOwn E ty w base v L) : ∃ A c, v = .slice A L.length c ∧ ElP E (fun b => v.ownBlock = some b ∧ base ≤ b) w A c L := by
  obtain ⟨A, c, rfl, h1, h2, h3, h4, h5⟩ := h.at_
  refine ⟨A, c, rfl, h1, ⟨h4, h5, fun e => (h2 e).2, .inr fun a e => (h3 a e).2.1⟩, fun b off e => .inr ?_⟩
  obtain ⟨q1, q2, q3, q4⟩ := h3 _ e
  have e1 : off = 0 := q1
  subst e e1
  exact ⟨rfl, q3⟩
/-- A call's own empty slice. -/
theorem ElOwn.empty (E : El α) (ty : TypeId) (w : World) : ElOwn E ty (w.alloc (.cells #[] ty)) w.heap.size (.slice (some ⟨w.heap.size, 0, none⟩) 0 0) [] :=
  ⟨by simp [El.flat], .inr ⟨w.heap.size, 0, #[], rfl, Nat.le_refl _, heap_alloc_new w _, Nat.le_refl _, Nat.zero_le _, by simp, by simp [El.flat]⟩⟩
/-- One cell of an element of the own turns. -/
theorem El.flat_set1 (E : El α) {u : Value} {j : Nat} (hj : j < E.n) : ∀ (L : List α) (i : Nat) (x y : α), L[i]? = some x → E.f y = (E.f x).set j u → (E.flat L).set (i * E.n + j) u = E.flat (L.set i y)
  | [], i, x, _, h, _ => by simp at h
  | z :: L, 0, x, y, h, hy => by
    simp only [List.getElem?_cons_zero, Option.some.injEq] at h
    subst h
    simp only [List.set_cons_zero, El.flat, Nat.zero_mul, Nat.zero_add]
    rw [List.set_append_left _ _ (by rw [E.len]; exact hj), hy]
  | z :: L, i + 1, x, y, h, hy => by
    rw [List.getElem?_cons_succ] at h
    have ih := El.flat_set1 E hj L i x y h hy
    simp only [List.set_cons_succ, El.flat]
    rw [List.set_append_right _ _ (by rw [E.len, Nat.succ_mul]; omega), E.len, Nat.succ_mul, show i * E.n + E.n + j - E.n = i * E.n + j by omega, ih]
theorem ElOwn.set1 {ty : TypeId} {base g n : Nat} (h : ElOwn E ty w base (.slice (some ⟨g, 0, none⟩) n c) L) {i j : Nat} {x y : α} {u : Value} (hi : L[i]? = some x) (hj : j < E.n) (hy : E.f y = (E.f x).set j u) :
    ElOwn E ty (w.setCell ⟨g, i * E.n + j, none⟩ u) base (.slice (some ⟨g, 0, none⟩) n c) (L.set i y) := by
  rcases h.2 with ⟨h0, _⟩ | ⟨g', cap, cur, hv, hg, hh, hnc, hcm, hcs, htk⟩
  · cases h0
  · injection hv with h1 h2 h3
    injection h1 with h1
    injection h1 with h1
    subst h1; subst h3
    refine ⟨by rw [E.flat_len], .inr ⟨g, c, cur.setIfInBounds (i * E.n + j) u, by rw [List.length_set, h2], hg, ?_, by simpa using hnc, hcm, by simpa using hcs, ?_⟩⟩
    · simp [World.setCell, Array.getElem?_modify, hh]
    · rw [← El.flat_set1 E hj L i x y hi hy, ← htk]
      simp only [Array.toList_setIfInBounds, List.length_set]
      rw [List.take_set]
/-- A cell of the own. -/
theorem ElOwn.slot {ty : TypeId} {base g n : Nat} (h : ElOwn E ty w base (.slice (some ⟨g, 0, none⟩) n c) L) {i : Nat} {x : α} (hi : L[i]? = some x) :
    g < w.heap.size ∧ base ≤ g ∧ (∀ j, j < E.n → w.cell? ⟨g, i * E.n + j, none⟩ = (E.f x)[j]?) ∧ ∀ j, w.frozen? ⟨g, j, none⟩ = false := by
  obtain ⟨A, c', e, hA, -, hb, -⟩ := h.at_
  injection e with e1 e2 e3
  subst e1
  obtain ⟨b, off, e, hbl, q⟩ := hA i x hi
  injection e with e
  injection e with e1 e2
  subst e1; subst e2
  refine ⟨hbl, (hb _ rfl).2.2.1, fun j hj => by have := q j hj; rw [Nat.zero_add] at this; exact this, fun j => ?_⟩
  rcases h.2 with ⟨h0, _⟩ | ⟨g', cap, cur, hv, hg, hh, _⟩
  · cases h0
  · injection hv with h1
    injection h1 with h1
    injection h1 with h1
    subst h1
    simp [World.frozen?, hh]
theorem ElOwn.cap {ty : TypeId} {base g n : Nat} (h : ElOwn E ty w base (.slice (some ⟨g, 0, none⟩) n c) L) : n = L.length ∧ L.length ≤ c ∧ c ≤ maxLen := by
  rcases h.2 with ⟨h0, _⟩ | ⟨g', cap, cur, hv, hg, hh, hnc, hcm, _⟩
  · cases h0
  · injection hv with h1 h2 h3
    subst h3; exact ⟨h2, hnc, hcm⟩
end
end Go.Proofs.Ytjckpammcgeloaa
namespace Go.Proofs.Ytjckpammcgeloaa
open Go.RowKit

theorem info_case : (Try.prog.info? 37).map (fun i => (i.zero, i.size, i.bytes)) = some (some (.agg #[.int .i64 0, .string ⟨#[]⟩, .string ⟨#[]⟩, .int .i64 0, .bool false]), 5, 56) := by kernel_rfl
theorem info_cou : (Try.prog.info? 45).map (fun i => (i.zero, i.size, i.bytes)) = some (some (.agg #[.int .i64 0, .string ⟨#[]⟩, .slice none 0 0]), 3, 48) := by kernel_rfl
theorem info_str : (Try.prog.info? 9).map (fun i => (i.zero, i.size, i.bytes)) = some (some (.string ⟨#[]⟩), 1, 16) := by kernel_rfl
/-- A case. -/
structure CaseD where
  c : Int
  r : ByteArray
  o : ByteArray
  t : Int
  s : Bool
/-- A counsellor, and as it lies in memory. -/
structure CouD where
  id : Int
  o : ByteArray
  away : List ByteArray
structure CouV where
  id : Int
  o : ByteArray
  A : Option Addr
  n : Nat
  c : Nat
structure DeskD where
  cs : List CouD
  ks : List CaseD
abbrev caseV (x : CaseD) : Value := .agg #[.int .i64 x.c, .string x.r, .string x.o, .int .i64 x.t, .bool x.s]
abbrev couV (x : CouV) : Value := .agg #[.int .i64 x.id, .string x.o, .slice x.A x.n x.c]
def EK : El CaseD := ⟨5, fun x => [.int .i64 x.c, .string x.r, .string x.o, .int .i64 x.t, .bool x.s], fun _ => rfl, fun _ u h => by simp only [List.mem_cons, List.not_mem_nil, or_false] at h; rcases h with rfl | rfl | rfl | rfl | rfl <;> rfl, by omega⟩
def EC : El CouV := ⟨3, fun x => [.int .i64 x.id, .string x.o, .slice x.A x.n x.c], fun _ => rfl, fun _ u h => by simp only [List.mem_cons, List.not_mem_nil, or_false] at h; rcases h with rfl | rfl | rfl <;> rfl, by omega⟩
def ES : El ByteArray := ⟨1, fun x => [.string x], fun _ => rfl, fun _ u h => by simp only [List.mem_cons, List.not_mem_nil, or_false] at h; rcases h with rfl; rfl, by omega⟩
def kAt (K : List CaseD) (k : Nat) : CaseD := K.getD k ⟨0, ⟨#[]⟩, ⟨#[]⟩, 0, false⟩
def cAt (C : List CouD) (k : Nat) : CouD := C.getD k ⟨0, ⟨#[]⟩, []⟩
def vAt (C : List CouV) (k : Nat) : CouV := C.getD k ⟨0, ⟨#[]⟩, none, 0, 0⟩
def sAt (S : List ByteArray) (k : Nat) : ByteArray := S.getD k ⟨#[]⟩
theorem kAt_get {K : List CaseD} {k : Nat} (h : k < K.length) : K[k]? = some (kAt K k) := by simp [kAt, List.getD_eq_getElem?_getD, h]
theorem cAt_get {K : List CouD} {k : Nat} (h : k < K.length) : K[k]? = some (cAt K k) := by simp [cAt, List.getD_eq_getElem?_getD, h]
theorem vAt_get {K : List CouV} {k : Nat} (h : k < K.length) : K[k]? = some (vAt K k) := by simp [vAt, List.getD_eq_getElem?_getD, h]
theorem sAt_get {K : List ByteArray} {k : Nat} (h : k < K.length) : K[k]? = some (sAt K k) := by simp [sAt, List.getD_eq_getElem?_getD, h]
theorem take_k {K : List CaseD} {k : Nat} (h : k < K.length) : K.take (k + 1) = K.take k ++ [kAt K k] := by rw [List.take_add_one, kAt_get h]; rfl
theorem take_c {K : List CouD} {k : Nat} (h : k < K.length) : K.take (k + 1) = K.take k ++ [cAt K k] := by rw [List.take_add_one, cAt_get h]; rfl
theorem take_v {K : List CouV} {k : Nat} (h : k < K.length) : K.take (k + 1) = K.take k ++ [vAt K k] := by rw [List.take_add_one, vAt_get h]; rfl
theorem take_s {K : List ByteArray} {k : Nat} (h : k < K.length) : K.take (k + 1) = K.take k ++ [sAt K k] := by rw [List.take_add_one, sAt_get h]; rfl
/-- The value of a counsellor says what the counsellor is. -/
structure CouR (P : Nat → Prop) (w : World) (x : CouV) (d : CouD) : Prop where
  id : x.id = d.id
  o : x.o = d.o
  n : x.n = d.away.length
  away : ElP ES P w x.A x.c d.away
section
variable {P Q : Nat → Prop} {w w' : World}
theorem CouR.keep {x : CouV} {d : CouD} (h : CouR P w x d) (hk : Kpt P w w') : CouR P w' x d := ⟨h.id, h.o, h.n, h.away.keep hk⟩
theorem CouR.mono {x : CouV} {d : CouD} (h : CouR P w x d) (hPQ : ∀ b, b < w.heap.size → P b → Q b) : CouR Q w x d := ⟨h.id, h.o, h.n, h.away.mono hPQ⟩
/-- The values of counsellors. -/
structure CousV (P : Nat → Prop) (w : World) (X : List CouV) (C : List CouD) : Prop where
  len : X.length = C.length
  at_ : ∀ k, k < C.length → CouR P w (vAt X k) (cAt C k)
theorem CousV.nil (P : Nat → Prop) (w : World) : CousV P w [] [] := ⟨rfl, fun k hk => absurd hk (by simp)⟩
theorem CousV.keep {X : List CouV} {C : List CouD} (h : CousV P w X C) (hk : Kpt P w w') : CousV P w' X C := ⟨h.len, fun k hl => (h.at_ k hl).keep hk⟩
theorem CousV.mono {X : List CouV} {C : List CouD} (h : CousV P w X C) (hPQ : ∀ b, b < w.heap.size → P b → Q b) : CousV Q w X C := ⟨h.len, fun k hl => (h.at_ k hl).mono hPQ⟩
theorem vAt_app {X Y : List CouV} {k : Nat} : vAt (X ++ Y) k = if k < X.length then vAt X k else vAt Y (k - X.length) := by
  unfold vAt
  simp only [List.getD_eq_getElem?_getD]
  split
  · rename_i h; rw [List.getElem?_append_left h]
  · rename_i h; rw [List.getElem?_append_right (by omega)]
theorem cAt_app {X Y : List CouD} {k : Nat} : cAt (X ++ Y) k = if k < X.length then cAt X k else cAt Y (k - X.length) := by
  unfold cAt
  simp only [List.getD_eq_getElem?_getD]
  split
  · rename_i h; rw [List.getElem?_append_left h]
  · rename_i h; rw [List.getElem?_append_right (by omega)]
theorem CousV.app {X Y : List CouV} {C D : List CouD} (h : CousV P w X C) (g : CousV P w Y D) : CousV P w (X ++ Y) (C ++ D) := ⟨by rw [List.length_append, List.length_append, h.len, g.len], fun k hk => by
  rw [vAt_app, cAt_app, h.len]
  split
  · rename_i h1; exact h.at_ k h1
  · rename_i h1; rw [List.length_append] at hk; exact g.at_ _ (by omega)⟩
theorem CousV.one {x : CouV} {d : CouD} (h : CouR P w x d) : CousV P w [x] [d] := ⟨rfl, fun k hk => by
  have : k = 0 := by simp at hk; omega
  subst this; exact h⟩
/-- A slice of counsellors that can be read; the blocks that its parts lie in satisfy P. -/
def CousP (P : Nat → Prop) (w : World) (A : Option Addr) (c : Nat) (C : List CouD) : Prop := ∃ X, ElP EC P w A c X ∧ CousV P w X C
theorem CousP.keep {A : Option Addr} {c : Nat} {C : List CouD} (h : CousP P w A c C) (hk : Kpt P w w') : CousP P w' A c C := by
  obtain ⟨X, h1, h2⟩ := h; exact ⟨X, h1.keep hk, h2.keep hk⟩
theorem CousP.below {A : Option Addr} {c : Nat} {C : List CouD} (h : CousP P w A c C) (hb : Below w.heap.size w w') : CousP P w' A c C := h.keep (Kpt.below hb)
theorem CousP.mono {A : Option Addr} {c : Nat} {C : List CouD} (h : CousP P w A c C) (hPQ : ∀ b, b < w.heap.size → P b → Q b) : CousP Q w A c C := by
  obtain ⟨X, h1, h2⟩ := h; exact ⟨X, h1.mono hPQ, h2.mono hPQ⟩
theorem CousP.nil (P : Nat → Prop) (w : World) : CousP P w none 0 [] := ⟨[], ElP.nil _ _ _, CousV.nil _ _⟩
/-- One counsellor. -/
theorem CousP.one {A : Option Addr} {c : Nat} {C : List CouD} (h : CousP P w A c C) {k : Nat} (hk : k < C.length) : ∃ b off B n d, A = some ⟨b, off, none⟩ ∧ b < w.heap.size ∧ P b ∧ w.cell? ⟨b, off + k * 3, none⟩ = some (.int .i64 (cAt C k).id) ∧ w.cell? ⟨b, off + k * 3 + 1, none⟩ = some (.string (cAt C k).o) ∧ w.cell? ⟨b, off + k * 3 + 2, none⟩ = some (.slice B n d) ∧ n = (cAt C k).away.length ∧ ElP ES P w B d (cAt C k).away := by
  obtain ⟨X, h1, h2⟩ := h
  obtain ⟨b, off, e, hlt, hP, hc⟩ := h1.one (vAt_get (show k < X.length by rw [h2.len]; exact hk))
  obtain ⟨q1, q2, q3, q4⟩ := h2.at_ k hk
  have c0 := hc 0 (by show 0 < 3; omega)
  have c1 := hc 1 (by show 1 < 3; omega)
  have c2 := hc 2 (by show 2 < 3; omega)
  exact ⟨b, off, _, _, _, e, hlt, hP, c0.trans (by rw [← q1]; rfl), c1.trans (by rw [← q2]; rfl), c2, q3, q4⟩
theorem CousP.ok {A : Option Addr} {c : Nat} {C : List CouD} (h : CousP P w A c C) : SlI A c C.length := by
  obtain ⟨X, h1, h2⟩ := h; rw [← h2.len]; exact h1.ok
/-- One case. -/
theorem ElP.case {A : Option Addr} {c : Nat} {K : List CaseD} (h : ElP EK P w A c K) {k : Nat} (hk : k < K.length) : ∃ b off, A = some ⟨b, off, none⟩ ∧ b < w.heap.size ∧ P b ∧ w.cell? ⟨b, off + k * 5, none⟩ = some (.int .i64 (kAt K k).c) ∧ w.cell? ⟨b, off + k * 5 + 1, none⟩ = some (.string (kAt K k).r) ∧ w.cell? ⟨b, off + k * 5 + 2, none⟩ = some (.string (kAt K k).o) ∧ w.cell? ⟨b, off + k * 5 + 3, none⟩ = some (.int .i64 (kAt K k).t) ∧ w.cell? ⟨b, off + k * 5 + 4, none⟩ = some (.bool (kAt K k).s) := by
  obtain ⟨b, off, e, hlt, hP, hc⟩ := h.one (kAt_get hk)
  exact ⟨b, off, e, hlt, hP, hc 0 (by show 0 < 5; omega), hc 1 (by show 1 < 5; omega), hc 2 (by show 2 < 5; omega), hc 3 (by show 3 < 5; omega), hc 4 (by show 4 < 5; omega)⟩
theorem ElP.str {A : Option Addr} {c : Nat} {S : List ByteArray} (h : ElP ES P w A c S) {k : Nat} (hk : k < S.length) : ∃ b off, A = some ⟨b, off, none⟩ ∧ b < w.heap.size ∧ P b ∧ w.cell? ⟨b, off + k, none⟩ = some (.string (sAt S k)) := by
  obtain ⟨b, off, e, hlt, hP, hc⟩ := h.one (sAt_get hk)
  refine ⟨b, off, e, hlt, hP, ?_⟩
  have := hc 0 (by show 0 < 1; omega)
  rw [show off + k * ES.n + 0 = off + k from by show off + k * 1 + 0 = off + k; omega] at this
  exact this
/-- A desk's value that can be read. -/
def DeskR (P : Nat → Prop) (w : World) (v : Value) (D : DeskD) : Prop := ∃ A ca B cb, v = .agg #[.slice A D.cs.length ca, .slice B D.ks.length cb] ∧ CousP P w A ca D.cs ∧ ElP EK P w B cb D.ks
theorem DeskR.keep {v : Value} {D : DeskD} (h : DeskR P w v D) (hk : Kpt P w w') : DeskR P w' v D := by
  obtain ⟨A, ca, B, cb, e, h1, h2⟩ := h; exact ⟨A, ca, B, cb, e, h1.keep hk, h2.keep hk⟩
theorem DeskR.below {v : Value} {D : DeskD} (h : DeskR P w v D) (hb : Below w.heap.size w w') : DeskR P w' v D := h.keep (Kpt.below hb)
theorem DeskR.mono {v : Value} {D : DeskD} (h : DeskR P w v D) (hPQ : ∀ b, b < w.heap.size → P b → Q b) : DeskR Q w v D := by
  obtain ⟨A, ca, B, cb, e, h1, h2⟩ := h; exact ⟨A, ca, B, cb, e, h1.mono hPQ, h2.mono hPQ⟩
theorem DeskR.any {v : Value} {D : DeskD} (h : DeskR P w v D) : DeskR (fun _ => True) w v D := h.mono fun _ _ _ => trivial
/-- A desk in a variable. -/
def DeskCell (w : World) (x : Nat) (u v : Value) : Prop := w.heap[x]? = some (.cells #[u, v] 30 (0, 0))
theorem DeskCell.lt {x : Nat} {u v : Value} (h : DeskCell w x u v) : x < w.heap.size := blk_ltE h
theorem DeskCell.c0 {x : Nat} {u v : Value} (h : DeskCell w x u v) : w.cell? ⟨x, 0, none⟩ = some u := by rw [cell_of_row w x 0 _ _ (0, 0) h]; rfl
theorem DeskCell.c1 {x : Nat} {u v : Value} (h : DeskCell w x u v) : w.cell? ⟨x, 1, none⟩ = some v := by rw [cell_of_row w x 1 _ _ (0, 0) h]; rfl
theorem DeskCell.fz {x : Nat} {u v : Value} (h : DeskCell w x u v) (j : Nat) : w.frozen? ⟨x, j, none⟩ = false := by unfold DeskCell at h; simp [World.frozen?, h]
theorem DeskCell.below {x : Nat} {u v : Value} (h : DeskCell w x u v) (hb : Below w.heap.size w w') : DeskCell w' x u v := (hb.block x (blk_ltE h)).trans h
theorem DeskCell.keep {x : Nat} {u v : Value} (h : DeskCell w x u v) (hb : w'.heap[x]? = w.heap[x]?) : DeskCell w' x u v := hb.trans h
theorem DeskCell.new {i : Nat} (u v : Value) (hi : i = w.heap.size) : DeskCell (w.alloc (.cells #[u, v] 30)) i u v := by subst hi; exact heap_alloc_new w _
theorem DeskCell.set0 {x : Nat} {u v : Value} (h : DeskCell w x u v) (y : Value) : DeskCell (w.setCell ⟨x, 0, none⟩ y) x y v := by unfold DeskCell at h ⊢; simp [World.setCell, Array.getElem?_modify, h]
theorem DeskCell.set1 {x : Nat} {u v : Value} (h : DeskCell w x u v) (y : Value) : DeskCell (w.setCell ⟨x, 1, none⟩ y) x u y := by unfold DeskCell at h ⊢; simp [World.setCell, Array.getElem?_modify, h]
theorem DeskCell.other {x : Nat} {u v : Value} (h : DeskCell w x u v) (p : Addr) (y : Value) (hp : x ≠ p.block) : DeskCell (w.setCell p y) x u v := (Below.heap_setCell w p y x hp).trans h
/-- A desk of the call's own. -/
structure DeskO (w : World) (base : Nat) (u v : Value) (D : DeskD) : Prop where
  cs : ∃ X, ElOwn EC 45 w base u X ∧ CousV (fun b => base ≤ b ∧ u.ownBlock ≠ some b ∧ v.ownBlock ≠ some b) w X D.cs
  ks : ElOwn EK 37 w base v D.ks
  ne : ∀ b, u.ownBlock = some b → v.ownBlock ≠ some b
theorem DeskO.below {base : Nat} {u v : Value} {D : DeskD} (h : DeskO w base u v D) (hb : Below w.heap.size w w') : DeskO w' base u v D := by
  obtain ⟨X, h1, h2⟩ := h.cs
  exact ⟨⟨X, h1.below hb, h2.keep (Kpt.below hb)⟩, h.ks.below hb, h.ne⟩
theorem DeskO.lower {base base' : Nat} {u v : Value} {D : DeskD} (h : DeskO w base u v D) (hb : base' ≤ base) : DeskO w base' u v D := by
  obtain ⟨X, h1, h2⟩ := h.cs
  exact ⟨⟨X, h1.mono hb, h2.mono fun b _ h => ⟨by omega, h.2⟩⟩, h.ks.mono hb, h.ne⟩
theorem DeskO.read {base : Nat} {u v : Value} {D : DeskD} (h : DeskO w base u v D) : DeskR (fun b => base ≤ b) w (.agg #[u, v]) D := by
  obtain ⟨X, h1, h2⟩ := h.cs
  obtain ⟨A, ca, rfl, hA⟩ := h1.toP
  obtain ⟨B, cb, rfl, hB⟩ := h.ks.toP
  refine ⟨A, ca, B, cb, by rw [h2.len], ⟨X, hA.mono fun b _ h => h.2, h2.mono fun b _ h => h.1⟩, hB.mono fun b _ h => h.2⟩
end
end Go.Proofs.Ytjckpammcgeloaa
namespace Go.Proofs.Ytjckpammcgeloaa
open Go.RowKit

def upd (L : Nat → Bool) (i : Nat) : Nat → Bool := fun k => cond (Nat.beq k i) true (L k)
def updV (V : Nat → Value) (i : Nat) (v : Value) : Nat → Value := fun k => cond (Nat.beq k i) v (V k)
theorem upd_same (L : Nat → Bool) (i : Nat) : upd L i i = true := by simp [upd]
theorem upd_other (L : Nat → Bool) {i k : Nat} (h : k ≠ i) : upd L i k = L k := by
  unfold upd
  have : Nat.beq k i = false := by
    cases hb : Nat.beq k i
    · rfl
    · exact absurd (Nat.eq_of_beq_eq_true hb) h
  rw [this]; rfl
theorem updV_same (V : Nat → Value) (i : Nat) (v : Value) : updV V i v i = v := by simp [updV]
theorem updV_other (V : Nat → Value) {i k : Nat} (v : Value) (h : k ≠ i) : updV V i v k = V k := by
  unfold updV
  have : Nat.beq k i = false := by
    cases hb : Nat.beq k i
    · rfl
    · exact absurd (Nat.eq_of_beq_eq_true hb) h
  rw [this]; rfl

/-- Where each operation's value lies, and that nothing else has turned. -/
structure RJ (ops : Array Oper) (a0 : Act) (V : Nat → Value) (L : Nat → Bool) (a : Act) : Prop where
  defers : a.defers = a0.defers
  size : a.tmps.size = a0.tmps.size
  val : ∀ (j : Nat) (o : Oper), ops[j]? = some o → ∀ d, o.dst = some d → L j = true → a.tmps[d]?.getD undef = V j
  same : ∀ k, (ops.all fun o => o.dst != some k) = true → a.tmps[k]? = a0.tmps[k]?
/-- Each operation's slot is its own, and lies in the frame. -/
def dstsB (ops : Array Oper) (n : Nat) : Bool :=
  (List.range ops.size).all fun i => match ops[i]? with
    | none => true
    | some o => match o.dst with
      | none => true
      | some d => decide (d < n) && (List.range ops.size).all fun j => j == i || match ops[j]? with
        | none => true
        | some p => p.dst != some d
theorem dstsB_spec {ops : Array Oper} {n : Nat} (h : dstsB ops n = true) {i : Nat} {o : Oper} (hi : ops[i]? = some o) {d : Nat} (hd : o.dst = some d) : d < n ∧ ∀ j p, j ≠ i → ops[j]? = some p → p.dst ≠ some d := by
  unfold dstsB at h
  rw [List.all_eq_true] at h
  have hil : i < ops.size := (Array.getElem?_eq_some_iff.1 hi).1
  have h1 := h i (List.mem_range.2 hil)
  rw [hi] at h1
  simp only [hd, Bool.and_eq_true, decide_eq_true_eq, List.all_eq_true, List.mem_range, Bool.or_eq_true, beq_iff_eq] at h1
  refine ⟨h1.1, fun j p hj hp => ?_⟩
  have hjl : j < ops.size := (Array.getElem?_eq_some_iff.1 hp).1
  have h2 := h1.2 j hjl
  rw [hp] at h2
  rcases h2 with h2 | h2
  · exact absurd h2 hj
  · simpa using h2
theorem RJ.step {ops : Array Oper} {a0 : Act} {V : Nat → Value} {L : Nat → Bool} {a : Act} (h : RJ ops a0 V L a) (hB : dstsB ops a0.tmps.size = true) {i : Nat} {o : Oper} (hi : ops[i]? = some o) (v : Value) : RJ ops a0 (updV V i v) (upd L i) (a.put o.dst v) := by
  cases hd : o.dst with
  | none =>
    refine ⟨h.defers, h.size, fun j p hj d hpd hL => ?_, h.same⟩
    by_cases e : j = i
    · subst e
      rw [hi] at hj; injection hj with hj; subst hj
      rw [hd] at hpd; cases hpd
    · rw [updV_other _ _ e]; rw [upd_other _ e] at hL; exact h.val j p hj d hpd hL
  | some d0 =>
    obtain ⟨hlt, hne⟩ := dstsB_spec hB hi hd
    refine ⟨h.defers, by simpa [Act.put] using h.size, fun j p hj d hpd hL => ?_, fun k hk => ?_⟩
    · by_cases e : j = i
      · subst e
        rw [hi] at hj; injection hj with hj; subst hj
        rw [hd] at hpd; injection hpd with hpd; subst hpd
        rw [updV_same]
        have : d0 < a.tmps.size := by rw [h.size]; exact hlt
        simp [Act.put, this]
      · have hdd : d0 ≠ d := fun e2 => hne j p e hj (by rw [e2]; exact hpd)
        rw [updV_other _ _ e]; rw [upd_other _ e] at hL
        have := h.val j p hj d hpd hL
        simp only [Act.put, Array.getElem?_setIfInBounds_ne hdd]; exact this
    · have hdk : d0 ≠ k := fun e => by
        rw [Array.all_eq_true_iff_forall_mem] at hk
        have := hk o (Array.mem_of_getElem? hi)
        simp [hd, e] at this
      simp only [Act.put, Array.getElem?_setIfInBounds_ne hdk]; exact h.same k hk

/-- The operations that must come before one. -/
def preL (o : Oper) : List Nat := (o.after.toList.filter fun e => Region.binds .any e).map (·.on)
def lowB (ops : Array Oper) : Bool := (List.range ops.size).all fun i => match ops[i]? with
  | none => true
  | some o => (preL o).all fun j => decide (j < i)
def JSteps (P : Program) (ops : Array Oper) (Q : Exit → Act → World → Prop) (a0 : Act) (I : (Nat → Value) → (Nat → Bool) → World → Prop) : Nat → List Oper → Prop
  | _, [] => True
  | i, o :: l => (∀ V L a w, L i = false → (∀ j ∈ preL o, L j = true) → RJ ops a0 V L a → I V L w → ∀ K : Act → World → Prop, (∀ v w', I (updV V i v) (upd L i) w' → K (a.put o.dst v) w') →
      if Region.wanted o (yielded ops a.tmps) = true then Oper.wp P o a w K Q else K (a.put o.dst undef) w) ∧ JSteps P ops Q a0 I (i + 1) l
theorem JSteps.at_ {P : Program} {ops : Array Oper} {Q : Exit → Act → World → Prop} {a0 : Act} {I : (Nat → Value) → (Nat → Bool) → World → Prop} : ∀ (l : List Oper) (i : Nat), JSteps P ops Q a0 I i l → ∀ (j : Nat) (o : Oper), l[j]? = some o → ∀ V L a w, L (i + j) = false → (∀ k ∈ preL o, L k = true) → RJ ops a0 V L a → I V L w → ∀ K : Act → World → Prop, (∀ v w', I (updV V (i + j) v) (upd L (i + j)) w' → K (a.put o.dst v) w') →
      if Region.wanted o (yielded ops a.tmps) = true then Oper.wp P o a w K Q else K (a.put o.dst undef) w
  | [], i, _, j, o, h => by simp at h
  | p :: l, i, hs, 0, o, h => by
    simp only [List.getElem?_cons_zero, Option.some.injEq] at h
    subst h; exact hs.1
  | p :: l, i, hs, j + 1, o, h => by
    rw [List.getElem?_cons_succ] at h
    have := JSteps.at_ l (i + 1) hs.2 j o h
    rw [show i + 1 + j = i + (j + 1) by omega] at this; exact this
theorem count_set_lt {l : List Bool} {i : Nat} (h : i < l.length) (hf : l[i] = false) : (l.set i true).count false + 1 = l.count false := by
  induction l generalizing i with
  | nil => simp at h
  | cons b l ih =>
    cases i with
    | zero =>
      simp only [List.getElem_cons_zero] at hf
      subst hf
      simp
    | succ i =>
      simp only [List.getElem_cons_succ] at hf
      have := ih (by simpa using h) hf
      simp only [List.set_cons_succ, List.count_cons]
      omega
theorem wp_region_J {P : Program} {ops : Array Oper} {Q : Exit → Act → World → Prop} {id : Nat} {a0 : Act} {w0 : World} (I : (Nat → Value) → (Nat → Bool) → World → Prop)
    (hm : P.follows .mixedOrders = true) (hlow : lowB ops = true) (hB : dstsB ops a0.tmps.size = true)
    (h0 : ∀ V, I V (fun _ => false) w0.drew) (hs : JSteps P ops Q a0 I 0 ops.toList)
    (h1 : ∀ V L a w, (∀ i, i < ops.size → L i = true) → RJ ops a0 V L a → I V L w → Q .normal a w) : (Code.region id ops true).wp P Q a0 w0 := by
  refine wp_region_any hm ?_
  have key : ∀ (fuel : Nat) (listed : Array Bool) (V : Nat → Value) (L : Nat → Bool) (a : Act) (w : World), listed.size = ops.size → listed.toList.count false ≤ fuel → (∀ i, i < ops.size → L i = listed.getD i false) → RJ ops a0 V L a → I V L w → wpAny P .any ops Q fuel listed a w := by
    intro fuel
    induction fuel with
    | zero =>
      intro listed V L a w hsz hc hL hR hI
      have hall : ∀ i, i < ops.size → L i = true := fun i hi => by
        rw [hL i hi]
        have hil : i < listed.size := by omega
        have : listed[i] ≠ false := fun e => by
          have hm : false ∈ listed.toList := by rw [← e]; exact Array.mem_toList_iff.2 (Array.getElem_mem hil)
          have := List.count_pos_iff.2 hm
          omega
        simp [hil]; simpa using this
      refine ⟨?_, h1 V L a w hall hR hI⟩
      rw [List.eq_nil_iff_forall_not_mem]
      intro i hi
      obtain ⟨hf, o, ho, -⟩ := mem_ready.1 hi
      have hil := (Array.getElem?_eq_some_iff.1 ho).1
      have := hall i hil
      rw [hL i hil] at this
      have hil2 : i < listed.size := by omega
      simp [hil2] at hf this
      rw [hf] at this; cases this
    | succ fuel ih =>
      intro listed V L a w hsz hc hL hR hI
      refine ⟨fun hnil => ?_, fun i hi => ?_⟩
      · have hall : ∀ i, i < ops.size → L i = true := by
          intro i
          induction i using Nat.strongRecOn with
          | _ i IH =>
            intro hi
            cases hLi : L i with
            | true => rfl
            | false =>
              exfalso
              have hil : i < listed.size := by omega
              have hlf : listed[i] = false := by
                have := hL i hi
                rw [hLi] at this; simp [hil] at this; exact this
              have : i ∈ Region.ready .any ops listed := by
                refine mem_ready.2 ⟨by simp [hil, hlf], ops[i], Array.getElem?_eq_getElem hi, fun e he hb => ?_⟩
                have hlt : e.on < i := by
                  unfold lowB at hlow
                  rw [List.all_eq_true] at hlow
                  have h2 := hlow i (List.mem_range.2 hi)
                  rw [Array.getElem?_eq_getElem hi] at h2
                  simp only [List.all_eq_true] at h2
                  have := h2 e.on (List.mem_map.2 ⟨e, List.mem_filter.2 ⟨Array.mem_toList_iff.2 he, hb⟩, rfl⟩)
                  simpa using this
                have := IH e.on hlt (by omega)
                rw [hL e.on (by omega)] at this; exact this
              rw [hnil] at this; cases this
        exact h1 V L a w hall hR hI
      · obtain ⟨hf, o, ho, hpre⟩ := mem_ready.1 hi
        have hil := (Array.getElem?_eq_some_iff.1 ho).1
        have hil2 : i < listed.size := by omega
        have hlf : listed[i] = false := by simpa [hil2] using hf
        refine wpOp_step ho fun K hK => ?_
        have hst := JSteps.at_ ops.toList 0 hs i o (by rw [Array.getElem?_toList]; exact ho) V L a w (by rw [Nat.zero_add, hL i hil, Array.getD_eq_getD_getElem?, Array.getElem?_eq_getElem hil2, hlf]; rfl) (fun j hj => ?_) hR hI K (fun v w' hI' => ?_)
        · exact hst
        · obtain ⟨e, he, rfl⟩ := List.mem_map.1 hj
          obtain ⟨he1, he2⟩ := List.mem_filter.1 he
          have := hpre e (Array.mem_toList_iff.1 he1) he2
          have hjl : e.on < listed.size := by
            rcases Nat.lt_or_ge e.on listed.size with h' | h'
            · exact h'
            · simp [Array.getElem?_eq_none h'] at this
          rw [hL e.on (by omega)]; exact this
        · rw [Nat.zero_add] at hI'
          refine hK _ _ (ih (listed.setIfInBounds i true) (updV V i v) (upd L i) _ w' (by simpa using hsz) ?_ (fun k hk => ?_) (hR.step hB ho v) hI')
          · rw [Array.toList_setIfInBounds]
            have := count_set_lt (l := listed.toList) (i := i) (by simpa using hil2) (by simpa using hlf)
            omega
          · by_cases e : k = i
            · subst e; rw [upd_same]; simp [hil2]
            · rw [upd_other _ e, hL k hk]
              simp [Array.getElem?_setIfInBounds_ne (Ne.symm e)]
  refine key ops.size (Array.replicate ops.size false) (fun _ => undef) (fun _ => false) a0 w0.drew (by simp) (by simp) (fun i hi => by simp [hi]) ⟨rfl, rfl, fun j o hj d hd hL => (by cases hL), fun k _ => rfl⟩ (h0 _)

/-! ### The frame behind the region -/
def putL (a : Act) : List (Nat × Value) → Act
  | [] => a
  | e :: l => putL (a.put (some e.1) e.2) l
def finL (V : Nat → Value) : Nat → List Oper → List (Nat × Value)
  | _, [] => []
  | i, o :: l => match o.dst with
    | none => finL V (i + 1) l
    | some d => (d, V i) :: finL V (i + 1) l
theorem putL_defers : ∀ (l : List (Nat × Value)) (a : Act), (putL a l).defers = a.defers
  | [], _ => rfl
  | e :: l, a => by rw [putL, putL_defers l]; rfl
theorem putL_size : ∀ (l : List (Nat × Value)) (a : Act), (putL a l).tmps.size = a.tmps.size
  | [], _ => rfl
  | e :: l, a => by rw [putL, putL_size l]; simp [Act.put]
theorem putL_none (V : Nat → Value) (k : Nat) : ∀ (l : List Oper) (i : Nat) (a : Act), (∀ o ∈ l, o.dst ≠ some k) → (putL a (finL V i l)).tmps[k]? = a.tmps[k]?
  | [], _, _, _ => rfl
  | o :: l, i, a, h => by
    have h1 := h o (by simp)
    have h2 : ∀ p ∈ l, p.dst ≠ some k := fun p hp => h p (by simp [hp])
    cases hd : o.dst with
    | none => simp only [finL, hd]; exact putL_none V k l (i + 1) a h2
    | some d =>
      have hdk : d ≠ k := fun e => h1 (by rw [hd, e])
      simp only [finL, hd, putL]
      rw [putL_none V k l (i + 1) _ h2]
      simp only [Act.put, Array.getElem?_setIfInBounds_ne hdk]
theorem putL_some (V : Nat → Value) (k : Nat) : ∀ (l : List Oper) (i : Nat) (a : Act) (j : Nat) (o : Oper), l[j]? = some o → o.dst = some k → k < a.tmps.size → (∀ j' p, j' ≠ j → l[j']? = some p → p.dst ≠ some k) → (putL a (finL V i l)).tmps[k]? = some (V (i + j))
  | [], _, _, j, o, h, _, _, _ => by simp at h
  | p :: l, i, a, 0, o, h, hd, hk, hne => by
    simp only [List.getElem?_cons_zero, Option.some.injEq] at h
    subst h
    simp only [finL, hd, putL]
    rw [putL_none V k l (i + 1) _ (fun q hq => by
      obtain ⟨j', hj', hq'⟩ := List.getElem_of_mem hq
      exact hne (j' + 1) q (by omega) (by rw [List.getElem?_cons_succ, ← hq']; exact List.getElem?_eq_getElem hj'))]
    simp [Act.put, hk]
  | p :: l, i, a, j + 1, o, h, hd, hk, hne => by
    rw [List.getElem?_cons_succ] at h
    have hne' : ∀ j' q, j' ≠ j → l[j']? = some q → q.dst ≠ some k := fun j' q hj hq => hne (j' + 1) q (by omega) (by rw [List.getElem?_cons_succ]; exact hq)
    rw [show i + (j + 1) = (i + 1) + j by omega]
    cases hp : p.dst with
    | none => simp only [finL, hp]; exact putL_some V k l (i + 1) a j o h hd hk hne'
    | some d => simp only [finL, hp, putL]; exact putL_some V k l (i + 1) _ j o h hd (by simpa [Act.put] using hk) hne'
theorem RJ.fin {ops : Array Oper} {a0 : Act} {V : Nat → Value} {L : Nat → Bool} {a : Act} (h : RJ ops a0 V L a) (hB : dstsB ops a0.tmps.size = true) (hL : ∀ i, i < ops.size → L i = true) : a = putL a0 (finL V 0 ops.toList) := by
  have e1 : a.defers = (putL a0 (finL V 0 ops.toList)).defers := by rw [putL_defers]; exact h.defers
  have e2 : a.tmps = (putL a0 (finL V 0 ops.toList)).tmps := by
    refine Array.ext_getElem? fun k => ?_
    by_cases hk : (ops.all fun o => o.dst != some k) = true
    · rw [h.same k hk, putL_none]
      intro o ho
      rw [Array.all_eq_true_iff_forall_mem] at hk
      have := hk o (Array.mem_toList_iff.1 ho)
      simpa using this
    · have hex : ∃ (i : Nat) (o : Oper), ops[i]? = some o ∧ o.dst = some k := by
        refine Classical.byContradiction fun hn => hk ?_
        rw [Array.all_eq_true_iff_forall_mem]
        intro o ho
        obtain ⟨i, hi, he⟩ := Array.getElem_of_mem ho
        have : ¬ o.dst = some k := fun e => hn ⟨i, o, by rw [← he]; exact Array.getElem?_eq_getElem hi, e⟩
        simpa using this
      obtain ⟨i, o, hi, hd⟩ := hex
      obtain ⟨hlt, hne⟩ := dstsB_spec hB hi hd
      have hil := (Array.getElem?_eq_some_iff.1 hi).1
      rw [putL_some V k ops.toList 0 a0 i o (by rw [Array.getElem?_toList]; exact hi) hd hlt (fun j' p hj hp => hne j' p hj (by rw [Array.getElem?_toList] at hp; exact hp)), Nat.zero_add]
      have hv := h.val i o hi k hd (hL i hil)
      have hka : k < a.tmps.size := by rw [h.size]; exact hlt
      rw [Array.getElem?_eq_getElem hka] at hv ⊢
      simpa using hv
  cases a
  simp only at e1 e2
  subst e1; subst e2
  rfl
/-- The region, told by its steps; behind it the frame is written out. -/
theorem wp_region_J2 {P : Program} {l : List Oper} {Q : Exit → Act → World → Prop} {id : Nat} {a0 : Act} {w0 : World} (I : (Nat → Value) → (Nat → Bool) → World → Prop)
    (hm : P.follows .mixedOrders = true) (hlow : lowB l.toArray = true) (hB : dstsB l.toArray a0.tmps.size = true)
    (h0 : ∀ V, I V (fun _ => false) w0.drew) (hs : JSteps P l.toArray Q a0 I 0 l)
    (h1 : ∀ V L w, (∀ i, i < l.length → L i = true) → I V L w → Q .normal (putL a0 (finL V 0 l)) w) : (Code.region id l.toArray true).wp P Q a0 w0 := by
  refine wp_region_J I hm hlow hB h0 hs fun V L a w hL hR hI => ?_
  rw [hR.fin hB hL]
  exact h1 V L w (fun i hi => hL i (by simpa using hi)) hI
end Go.Proofs.Ytjckpammcgeloaa
namespace Go.Proofs.Ytjckpammcgeloaa
open Go.RowKit

section
variable {P : Program} {ops : Array Oper} {o : Oper} {a : Act} {K : Act → World → Prop} {Q : Exit → Act → World → Prop} {E : Prop} {w : World}
theorem J_val (hgd : o.guard = none) {v : Value} {w' : World} (he : (execOp a.eval o).run P w = .ok (.value v) w') (hK : K (a.put o.dst v) w') :
    if Region.wanted o (yielded ops a.tmps) = true then Oper.wp P o a w K Q else E := by
  rw [if_pos (by simp [Region.wanted, hgd])]
  unfold Oper.wp
  rw [he]; exact hK
theorem J_skip (hgd : o.guard = none) {w' : World} (he : (execOp a.eval o).run P w = .ok .skip w') (hK : K (a.put o.dst undef) w') :
    if Region.wanted o (yielded ops a.tmps) = true then Oper.wp P o a w K Q else E := by
  rw [if_pos (by simp [Region.wanted, hgd])]
  unfold Oper.wp
  rw [he]; exact hK
theorem J_move (hgd : o.guard = none) (x : Operand) (ho : o.op = .move x) (hK : K (a.put o.dst (a.eval x)) w) :
    if Region.wanted o (yielded ops a.tmps) = true then Oper.wp P o a w K Q else E :=
  J_val hgd (w' := w) (v := a.eval x) (by unfold execOp; rw [ho]; rfl) hK
theorem J_assign (hgd : o.guard = none) (x : Operand) (ho : o.op = .assign x) (hK : K (a.put o.dst (a.eval x)) w) :
    if Region.wanted o (yielded ops a.tmps) = true then Oper.wp P o a w K Q else E :=
  J_val hgd (w' := w) (v := a.eval x) (by unfold execOp; rw [ho]; rfl) hK
theorem run_val {s : Sem Value} {v : Value} {w' : World} (h : s.run P w = .ok v w') : (do pure (Next.value (← s)) : Sem Next).run P w = .ok (.value v) w' := by
  simp [h]
theorem run_skip {s : Sem Unit} {w' : World} (h : s.run P w = .ok () w') : (do s; pure Next.skip : Sem Next).run P w = .ok .skip w' := by
  simp [h]
theorem J_load (hgd : o.guard = none) (t : TypeId) (x : Operand) (ho : o.op = .load t x) {v : Value} (h : (Instr.loadAt t (a.eval x)).run P w = .ok v w) (hK : K (a.put o.dst v) w) :
    if Region.wanted o (yielded ops a.tmps) = true then Oper.wp P o a w K Q else E :=
  J_val hgd (by unfold execOp; rw [ho]; exact run_val h) hK
theorem J_alloc (hgd : o.guard = none) (t : TypeId) (ho : o.op = .alloc t) {v : Value} {w' : World} (h : (Instr.alloc t true (.tuple #[])).run P w = .ok v w') (hK : K (a.put o.dst v) w') :
    if Region.wanted o (yielded ops a.tmps) = true then Oper.wp P o a w K Q else E :=
  J_val hgd (by unfold execOp; rw [ho]; exact run_val h) hK
theorem J_extract (hgd : o.guard = none) (x : Operand) (i : Nat) (ho : o.op = .extract x i) {vs : Array Value} {v : Value} (hx : a.eval x = .tuple vs) (hv : vs[i]? = some v) (hK : K (a.put o.dst v) w) :
    if Region.wanted o (yielded ops a.tmps) = true then Oper.wp P o a w K Q else E :=
  J_val hgd (by unfold execOp; rw [ho]; exact run_val (by rw [hx]; simp [Instr.extract, hv])) hK
theorem J_store (hgd : o.guard = none) (t : TypeId) (x y : Operand) (ho : o.op = .store t x y) {w' : World} (h : (Instr.storeAt t (a.eval x) (a.eval y)).run P w = .ok () w') (hK : K (a.put o.dst undef) w') :
    if Region.wanted o (yielded ops a.tmps) = true then Oper.wp P o a w K Q else E :=
  J_skip hgd (by unfold execOp; rw [ho]; exact run_skip h) hK
theorem J_call (hgd : o.guard = none) (f : FuncId) (aa : Array Operand) (ts : Array TypeId)
    (ho : o.op = .call { callee := .value (.func f), args := aa, argTypes := ts }) (hen : ∀ args w, (callFunc f args).run P w = .ok (.enter f args) w) {vs : Array Value} (hv : aa.map a.eval = vs)
    {R : Ending → World → Prop} (hc : Calls P f vs w R) (hK : ∀ e w', R e w' → ∃ v, e = .returned v ∧ K (a.put o.dst v) w') :
    if Region.wanted o (yielded ops a.tmps) = true then Oper.wp P o a w K Q else E := by
  rw [if_pos (by simp [Region.wanted, hgd])]
  have hcc : (execOp a.eval o).run P w = .ok (.enter f vs) w := by
    rw [Go.Conc.execOp_call_func ho, hen, hv]
  unfold Oper.wp
  rw [hcc]
  refine Calls.mono hc ?_
  intro e w' hr
  obtain ⟨v, rfl, hk⟩ := hK e w' hr
  exact hk
end
theorem JSteps.cons {P : Program} {ops : Array Oper} {Q : Exit → Act → World → Prop} {a0 : Act} {I : (Nat → Value) → (Nat → Bool) → World → Prop} {i : Nat} {o : Oper} {l : List Oper}
    (h : ∀ V L a w, L i = false → (∀ j ∈ preL o, L j = true) → RJ ops a0 V L a → I V L w → ∀ K : Act → World → Prop, (∀ v w', I (updV V i v) (upd L i) w' → K (a.put o.dst v) w') →
      if Region.wanted o (yielded ops a.tmps) = true then Oper.wp P o a w K Q else K (a.put o.dst undef) w) (hs : JSteps P ops Q a0 I (i + 1) l) : JSteps P ops Q a0 I i (o :: l) := ⟨h, hs⟩
/-- What a slot holds: what the operation that writes it gave. -/
theorem RJ.ev {ops : Array Oper} {a0 : Act} {V : Nat → Value} {L : Nat → Bool} {a : Act} (h : RJ ops a0 V L a) (j : Nat) {o : Oper} (hj : ops[j]? = some o) {d : Nat} (hd : o.dst = some d) (hL : L j = true) : a.eval (.tmp d) = V j := by
  show a.tmps.getD d undef = V j
  rw [Array.getD_eq_getD_getElem?]; exact h.val j o hj d hd hL
theorem RJ.old {ops : Array Oper} {a0 : Act} {V : Nat → Value} {L : Nat → Bool} {a : Act} (h : RJ ops a0 V L a) (k : Nat) (hk : (ops.all fun o => o.dst != some k) = true) : a.eval (.tmp k) = a0.eval (.tmp k) := by
  show a.tmps.getD k undef = a0.tmps.getD k undef
  rw [Array.getD_eq_getD_getElem?, Array.getD_eq_getD_getElem?, h.same k hk]
/-- A literal of numbers. -/
theorem J_lit2 {ops : Array Oper} {o : Oper} {a : Act} {K : Act → World → Prop} {Q : Exit → Act → World → Prop} {E : Prop} {w : World} (hgd : o.guard = none) (x y : Operand) (ho : o.op = .buildSlice 22 2 #[(0, x), (1, y)]) {m n : Int} (hx : a.eval x = .int .i64 m) (hy : a.eval y = .int .i64 n)
    (hK : K (a.put o.dst (.slice (some ⟨w.heap.size, 0, none⟩) 2 2)) (w.alloc (.cells #[.int .i64 m, .int .i64 n] 3))) :
    if Region.wanted o (yielded ops a.tmps) = true then Oper.wp Try.prog o a w K Q else E :=
  J_val hgd (by
    unfold execOp; rw [ho]
    refine run_val ?_
    simp only [List.map_toArray, List.map_cons, List.map_nil, hx, hy]
    go_simp) hK
end Go.Proofs.Ytjckpammcgeloaa
namespace Go.Proofs.Ytjckpammcgeloaa
open Go.RowKit

section
variable {P : Program} {ops : Array Oper} {o : Oper} {a : Act} {K : Act → World → Prop} {Q : Exit → Act → World → Prop} {E : Prop} {w : World}
theorem J_fieldAddr (hgd : o.guard = none) (s : TypeId) (x : Operand) (f : Nat) (ho : o.op = .fieldAddr s x f) {v : Value} (h : (Instr.fieldAt s (a.eval x) f).run P w = .ok v w) (hK : K (a.put o.dst v) w) :
    if Region.wanted o (yielded ops a.tmps) = true then Oper.wp P o a w K Q else E :=
  J_val hgd (by unfold execOp; rw [ho]; exact run_val h) hK
theorem J_indexAddr (hgd : o.guard = none) (t : TypeId) (x ix : Operand) (ho : o.op = .indexAddr t x ix) {v : Value} (h : (Instr.indexAt t (a.eval x) (a.eval ix)).run P w = .ok v w) (hK : K (a.put o.dst v) w) :
    if Region.wanted o (yielded ops a.tmps) = true then Oper.wp P o a w K Q else E :=
  J_val hgd (by unfold execOp; rw [ho]; exact run_val h) hK
theorem J_binOp (hgd : o.guard = none) (b : BinOp) (t : TypeId) (x y : Operand) (u : TypeId) (ho : o.op = .binOp b t x y u) {v : Value} (h : (do Go.eqGuard b t x y (a.eval x) (a.eval y); Go.binOp b t (a.eval x) (a.eval y) : Sem Value).run P w = .ok v w) (hK : K (a.put o.dst v) w) :
    if Region.wanted o (yielded ops a.tmps) = true then Oper.wp P o a w K Q else E :=
  J_val hgd (by unfold execOp; rw [ho]; exact run_val h) hK
theorem J_build (hgd : o.guard = none) (t : TypeId) (parts : Array (Nat × Operand)) (ho : o.op = .build t parts) {v : Value} (h : (Instr.build t (parts.map fun (i, x) => (i, a.eval x))).run P w = .ok v w) (hK : K (a.put o.dst v) w) :
    if Region.wanted o (yielded ops a.tmps) = true then Oper.wp P o a w K Q else E :=
  J_val hgd (by unfold execOp; rw [ho]; exact run_val h) hK
theorem J_buildSlice (hgd : o.guard = none) (t : TypeId) (n : Nat) (parts : Array (Nat × Operand)) (ho : o.op = .buildSlice t n parts) {v : Value} {w' : World} (h : (Instr.buildSlice t n (parts.map fun (i, x) => (i, a.eval x))).run P w = .ok v w') (hK : K (a.put o.dst v) w') :
    if Region.wanted o (yielded ops a.tmps) = true then Oper.wp P o a w K Q else E :=
  J_val hgd (by unfold execOp; rw [ho]; exact run_val h) hK
end
/-- append of one element, from a literal that lies anywhere. -/
theorem J_app {α : Type} (E : El α) {t ty : TypeId} {z : Value} {bytes : Nat} (ht : Try.prog.underlying t = some (.slice ty)) (hinfo : (Try.prog.info? ty).map (fun i => (i.zero, i.size, i.bytes)) = some (some z, E.n, bytes)) (hzs : z.cells.size = E.n)
    {ops : Array Oper} {o : Oper} {a : Act} {K : Act → World → Prop} {Q : Exit → Act → World → Prop} {X : Prop} (W : World) (hgd : o.guard = none) (s x : Operand)
    (ho : o.op = .call { callee := .builtin .append, args := #[s, x], argTypes := #[t, t] })
    (base : Nat) (v : Value) (D : List α) (y : α) (g0 : Nat) (hs : a.eval s = v) (hx : a.eval x = .slice (some ⟨g0, 0, none⟩) 1 1)
    (hlit : ElAt E W (some ⟨g0, 0, none⟩) [y]) (hl : D.length ≤ 100000) (hb : bytes ≤ 1000) (hown : ElOwn E ty W base v D) (hbase : base ≤ W.heap.size)
    (h : ∀ g cap w', ElOwn E ty w' base (.slice (some ⟨g, 0, none⟩) (D.length + 1) cap) (D ++ [y]) → W.grownBy w' v.ownBlock → (v.ownBlock = some g ∨ g = W.heap.size) → K (a.put o.dst (.slice (some ⟨g, 0, none⟩) (D.length + 1) cap)) w') :
    if Region.wanted o (yielded ops a.tmps) = true then Oper.wp Try.prog o a W K Q else X := by
  obtain ⟨i0, hi, hz0, hz1, hz2⟩ := info_parts hinfo
  have hE1 : E.flat [y] = E.f y := by simp [El.flat]
  have hn := hlit.news
  rw [hE1] at hn
  have hbb : (D.length + 1) * bytes ≤ 100001 * 1000 := Nat.mul_le_mul (by omega) hb
  refine step_append_lies _ hgd s x t ho base ty i0 z E.n bytes ht hi hz0 hz1 hz2 hzs E.pos v D.length (E.flat D) hs hown ⟨g0, 0, none⟩ 1 1 (E.f y) hx (by rw [E.len]; simp) hn (fun u hu => E.one y u hu) (by omega) (by unfold maxLen; omega) (by omega) hbase _ rfl ?_
  intro g cap w' ho' hg hor _
  refine h g cap w' ?_ hg hor
  unfold ElOwn; rw [List.length_append, E.flat_append, hE1, List.length_singleton]; exact ho'
end Go.Proofs.Ytjckpammcgeloaa
namespace Go.Proofs.Ytjckpammcgeloaa
open Go.RowKit

/-! ### Guarded operations -/
section
variable {P : Program} {ops : Array Oper} {o : Oper} {a : Act} {K : Act → World → Prop} {Q : Exit → Act → World → Prop} {E : Prop} {w : World}
theorem G_g (hw : Region.wanted o (yielded ops a.tmps) = true) (h : if Region.wanted { o with guard := none } (yielded ops a.tmps) = true then Oper.wp P { o with guard := none } a w K Q else False) : if Region.wanted o (yielded ops a.tmps) = true then Oper.wp P o a w K Q else E := by
  rw [if_pos hw]
  rw [if_pos (by simp [Region.wanted])] at h
  exact h
theorem G_un (hw : Region.wanted o (yielded ops a.tmps) = false) (h : K (a.put o.dst undef) w) : if Region.wanted o (yielded ops a.tmps) = true then Oper.wp P o a w K Q else K (a.put o.dst undef) w := by
  rw [if_neg (by rw [hw]; decide)]; exact h
theorem RJ.yld {a0 : Act} {V : Nat → Value} {L : Nat → Bool} (h : RJ ops a0 V L a) {j : Nat} {p : Oper} (hj : ops[j]? = some p) {d : Nat} (hd : p.dst = some d) (hL : L j = true) {b : Bool} (hv : V j = .bool b) : yielded ops a.tmps j = some b := by
  have h1 := h.val j p hj d hd hL
  rw [hv] at h1
  unfold yielded
  rw [hj]
  simp only [Option.bind_some, hd]
  cases ht : a.tmps[d]? with
  | none => rw [ht] at h1; cases h1
  | some v => rw [ht] at h1; simp only [Option.getD_some] at h1; rw [h1]
theorem RJ.want' {a0 : Act} {V : Nat → Value} {L : Nat → Bool} (h : RJ ops a0 V L a) (j : Nat) {b : Bool} (hg : o.guard = some (j, b)) {p : Oper} (hj : ops[j]? = some p) {d : Nat} (hd : p.dst = some d) (hL : L j = true) (hv : V j = .bool b) : Region.wanted o (yielded ops a.tmps) = true := by
  unfold Region.wanted
  rw [hg]
  simp only
  rw [h.yld hj hd hL hv]
  simp
theorem RJ.unwant' {a0 : Act} {V : Nat → Value} {L : Nat → Bool} (h : RJ ops a0 V L a) (j : Nat) {b : Bool} (hg : o.guard = some (j, b)) {p : Oper} (hj : ops[j]? = some p) {d : Nat} (hd : p.dst = some d) (hL : L j = true) (hv : V j = .bool (!b)) : Region.wanted o (yielded ops a.tmps) = false := by
  unfold Region.wanted
  rw [hg]
  simp only
  rw [h.yld hj hd hL hv]
  cases b <;> rfl
theorem RJ.unwantU {a0 : Act} {V : Nat → Value} {L : Nat → Bool} (h : RJ ops a0 V L a) (j : Nat) {b : Bool} (hg : o.guard = some (j, b)) {p : Oper} (hj : ops[j]? = some p) {d : Nat} (hd : p.dst = some d) (hL : L j = true) (hv : V j = undef) : Region.wanted o (yielded ops a.tmps) = false := by
  have h1 := h.val j p hj d hd hL
  rw [hv] at h1
  have hy : yielded ops a.tmps j = none := by
    unfold yielded
    rw [hj]
    simp only [Option.bind_some, hd]
    cases ht : a.tmps[d]? with
    | none => rfl
    | some v => rw [ht] at h1; simp only [Option.getD_some] at h1; rw [h1]; rfl
  unfold Region.wanted
  rw [hg]
  simp only
  rw [hy]
  cases b <;> rfl
theorem G_pick (hgd : o.guard = none) (c x y : Operand) (ho : o.op = .pick c x y) {b : Bool} (hc : a.eval c = .bool b) {v : Value} (hv : (if b then a.eval x else a.eval y) = v) (hK : K (a.put o.dst v) w) :
    if Region.wanted o (yielded ops a.tmps) = true then Oper.wp P o a w K Q else E :=
  J_val hgd (w' := w) (v := v) (by unfold execOp; rw [ho]; simp only [hc]; rw [← hv]; rfl) hK
theorem G_unOp (hgd : o.guard = none) (b : UnOp) (t : TypeId) (x : Operand) (ho : o.op = .unOp b t x) {v : Value} (h : (Op.unary b (a.eval x)).run P w = .ok v w) (hK : K (a.put o.dst v) w) :
    if Region.wanted o (yielded ops a.tmps) = true then Oper.wp P o a w K Q else E :=
  J_val hgd (by unfold execOp; rw [ho]; exact run_val h) hK
theorem G_move (hgd : o.guard = none) (x : Operand) (ho : o.op = .move x) {v : Value} (e : a.eval x = v) (hK : K (a.put o.dst v) w) :
    if Region.wanted o (yielded ops a.tmps) = true then Oper.wp P o a w K Q else E := by
  rw [← e] at hK; exact J_move hgd x ho hK
theorem G_assign (hgd : o.guard = none) (x : Operand) (ho : o.op = .assign x) {v : Value} (e : a.eval x = v) (hK : K (a.put o.dst v) w) :
    if Region.wanted o (yielded ops a.tmps) = true then Oper.wp P o a w K Q else E := by
  rw [← e] at hK; exact J_assign hgd x ho hK
theorem G_slice (hgd : o.guard = none) (t : TypeId) (x : Operand) (lo hi mx : Option Operand) (ho : o.op = .slice t x lo hi mx) {v : Value} (h : (Instr.sliceAt t (a.eval x) (lo.map a.eval) (hi.map a.eval) (mx.map a.eval)).run P w = .ok v w) (hK : K (a.put o.dst v) w) :
    if Region.wanted o (yielded ops a.tmps) = true then Oper.wp P o a w K Q else E :=
  J_val hgd (by unfold execOp; rw [ho]; exact run_val h) hK
theorem G_len (hgd : o.guard = none) (x : Operand) (t : TypeId) (ho : o.op = .call { callee := .builtin .len, args := #[x], argTypes := #[t] }) {v : Value} (h : (Builtin.len_ #[t] o.type #[a.eval x]).run P w = .ok v w) (hK : K (a.put o.dst v) w) :
    if Region.wanted o (yielded ops a.tmps) = true then Oper.wp P o a w K Q else E := by
  refine J_val hgd (v := v) (w' := w) ?_ hK
  simp only [execOp, ho, resolve, invoke, builtin, Sem.run_bind, Sem.run_pure, Result.andThen_ok, List.map_toArray, List.map_cons, List.map_nil, h]
end
/-- A property of an operation's value, which later worlds keep. -/
structure Pr (R : World → World → Prop) where
  p : Value → World → Prop
  mono : ∀ v w w', p v w → R w w' → p v w'
def Pr.eq {R : World → World → Prop} (v : Value) : Pr R := ⟨fun u _ => u = v, fun _ _ _ h _ => h⟩
def Pr.any {R : World → World → Prop} : Pr R := ⟨fun _ _ => True, fun _ _ _ h _ => h⟩
/-- What holds of a region that is under way. -/
structure GI {R : World → World → Prop} (PL : List (Pr R)) (S : (Nat → Value) → (Nat → Bool) → World → Prop) (V : Nat → Value) (L : Nat → Bool) (w : World) : Prop where
  st : S V L w
  val : ∀ i q, PL[i]? = some q → L i = true → q.p (V i) w
section
variable {R : World → World → Prop} {PL : List (Pr R)} {S : (Nat → Value) → (Nat → Bool) → World → Prop} {V : Nat → Value} {L : Nat → Bool} {w w' : World}
theorem GI.start {V : Nat → Value} (h : S V (fun _ => false) w) : GI PL S V (fun _ => false) w := ⟨h, fun _ _ _ e => by cases e⟩
theorem GI.put (h : GI PL S V L w) (hr : R w w') (i : Nat) {q : Pr R} (hq : PL[i]? = some q) {v : Value} (hv : q.p v w') (hs : S (updV V i v) (upd L i) w') : GI PL S (updV V i v) (upd L i) w' := by
  refine ⟨hs, fun j q' hj e => ?_⟩
  by_cases hji : j = i
  · subst hji
    rw [updV_same]
    rw [hq] at hj
    injection hj with hj
    rw [← hj]; exact hv
  · rw [updV_other _ _ hji]
    rw [upd_other _ hji] at e
    exact q'.mono _ _ _ (h.val j q' hj e) hr
theorem GI.put0 (h : GI PL S V L w) (i : Nat) {q : Pr R} (hq : PL[i]? = some q) {v : Value} (hv : q.p v w) (hs : S (updV V i v) (upd L i) w) : GI PL S (updV V i v) (upd L i) w := by
  refine ⟨hs, fun j q' hj e => ?_⟩
  by_cases hji : j = i
  · subst hji
    rw [updV_same]
    rw [hq] at hj
    injection hj with hj
    rw [← hj]; exact hv
  · rw [updV_other _ _ hji]
    rw [upd_other _ hji] at e
    exact h.val j q' hj e
end
theorem pm {o : Oper} {L : Nat → Bool} (h : ∀ j ∈ preL o, L j = true) (k : Nat) (e : (preL o).elem k = true) : L k = true := h k (List.mem_of_elem_eq_true e)
theorem GI.ef {R : World → World → Prop} {PL : List (Pr R)} {S : (Nat → Value) → (Nat → Bool) → World → Prop} {V : Nat → Value} {L : Nat → Bool} {w : World} {ops : Array Oper} {a0 a : Act} {o : Oper} (hI : GI PL S V L w) (hR : RJ ops a0 V L a) (hpre : ∀ j ∈ preL o, L j = true) (k : Nat) {p : Oper} (hp : ops[k]? = some p) {d : Nat} (hd : p.dst = some d) {v : Value} (hq : PL[k]? = some (Pr.eq v)) (hm : (preL o).elem k = true) : a.eval (.tmp d) = v :=
  (hR.ev k hp hd (pm hpre k hm)).trans (hI.val k _ hq (pm hpre k hm))
theorem G_gw {R : World → World → Prop} {PL : List (Pr R)} {S : (Nat → Value) → (Nat → Bool) → World → Prop} {V : Nat → Value} {L : Nat → Bool} {w : World} {P : Program} {ops : Array Oper} {a0 a : Act} {o : Oper} {K : Act → World → Prop} {Q : Exit → Act → World → Prop} {E : Prop} (hI : GI PL S V L w) (hR : RJ ops a0 V L a) (hpre : ∀ j ∈ preL o, L j = true) (k : Nat) {b : Bool} (hg : o.guard = some (k, b)) {p : Oper} (hp : ops[k]? = some p) {d : Nat} (hd : p.dst = some d) (hq : PL[k]? = some (Pr.eq (.bool b))) (hm : (preL o).elem k = true)
    (h : if Region.wanted { o with guard := none } (yielded ops a.tmps) = true then Oper.wp P { o with guard := none } a w K Q else False) : if Region.wanted o (yielded ops a.tmps) = true then Oper.wp P o a w K Q else E :=
  G_g (hR.want' k hg hp hd (pm hpre k hm) (hI.val k _ hq (pm hpre k hm))) h
/-- The world has only grown. -/
def GrS (W0 : World) (_ : Nat → Value) (_ : Nat → Bool) (w : World) : Prop := Below W0.heap.size W0 w
theorem GrS.bl {W0 : World} {V : Nat → Value} {L : Nat → Bool} {w : World} (h : GrS W0 V L w) : Below W0.heap.size W0 w := h
theorem GrS.up {W0 : World} {V V' : Nat → Value} {L L' : Nat → Bool} {w : World} (h : GrS W0 V L w) : GrS W0 V' L' w := h
theorem GrS.to {W0 : World} {V V' : Nat → Value} {L L' : Nat → Bool} {w w' : World} (h : GrS W0 V L w) (hb : Below w.heap.size w w') : GrS W0 V' L' w' := below_trans h hb
theorem GrS.start (W0 : World) (V : Nat → Value) (L : Nat → Bool) : GrS W0 V L W0.drew := (Below.refl _ _).drew
theorem GI.u0 {R : World → World → Prop} {PL : List (Pr R)} {W0 : World} {V : Nat → Value} {L : Nat → Bool} {w : World} {o : Oper} {a : Act} {K : Act → World → Prop} {i : Nat} (hI : GI PL (GrS W0) V L w) (hK : ∀ v w', GI PL (GrS W0) (updV V i v) (upd L i) w' → K (a.put o.dst v) w') {v : Value} (hq : PL[i]? = some (Pr.eq v)) : K (a.put o.dst v) w := hK _ _ (hI.put0 i hq rfl hI.st.up)
section
variable {R : World → World → Prop} {PL : List (Pr R)} {W0 : World} {P : Program} {ops : Array Oper} {Q : Exit → Act → World → Prop} {a0 : Act} {i : Nat} {o : Oper} {l : List Oper}
theorem JSteps.un (k : Nat) {b : Bool} (hg : o.guard = some (k, b)) {p : Oper} (hp : ops[k]? = some p) {d : Nat} (hd : p.dst = some d) (hv : PL[k]? = some (Pr.eq (.bool (!b)))) (hm : (preL o).elem k = true) (hq : PL[i]? = some (Pr.eq undef)) (h : JSteps P ops Q a0 (GI PL (GrS W0)) (i + 1) l) : JSteps P ops Q a0 (GI PL (GrS W0)) i (o :: l) :=
  JSteps.cons (fun _ _ _ _ _ hpre hR hI _ hK => G_un (hR.unwant' k hg hp hd (pm hpre k hm) (hI.val k _ hv (pm hpre k hm))) (hI.u0 hK hq)) h
theorem JSteps.unU (k : Nat) {b : Bool} (hg : o.guard = some (k, b)) {p : Oper} (hp : ops[k]? = some p) {d : Nat} (hd : p.dst = some d) (hv : PL[k]? = some (Pr.eq undef)) (hm : (preL o).elem k = true) (hq : PL[i]? = some (Pr.eq undef)) (h : JSteps P ops Q a0 (GI PL (GrS W0)) (i + 1) l) : JSteps P ops Q a0 (GI PL (GrS W0)) i (o :: l) :=
  JSteps.cons (fun _ _ _ _ _ hpre hR hI _ hK => G_un (hR.unwantU k hg hp hd (pm hpre k hm) (hI.val k _ hv (pm hpre k hm))) (hI.u0 hK hq)) h
theorem JSteps.mf (k : Nat) (hg : o.guard = none) {p : Oper} (hp : ops[k]? = some p) {d : Nat} (hd : p.dst = some d) (ho : o.op = .move (.tmp d)) {v : Value} (hv : PL[k]? = some (Pr.eq v)) (hm : (preL o).elem k = true) (hq : PL[i]? = some (Pr.eq v)) (h : JSteps P ops Q a0 (GI PL (GrS W0)) (i + 1) l) : JSteps P ops Q a0 (GI PL (GrS W0)) i (o :: l) :=
  JSteps.cons (fun _ _ _ _ _ hpre hR hI _ hK => G_move hg (.tmp d) ho (hI.ef hR hpre k hp hd hv hm) (hI.u0 hK hq)) h
end
/-- Worlds that only grow. -/
def Bl (w w' : World) : Prop := Below w.heap.size w w'
/-- A literal of the call's own, in a block that came behind B. -/
def Pr.lit (B : Nat) (n : Nat) (cs : Array Value) (ty : TypeId) : Pr Bl :=
  ⟨fun u w => ∃ g, u = .slice (some ⟨g, 0, none⟩) n n ∧ B ≤ g ∧ w.heap[g]? = some (.cells cs ty (0, 0)), fun _ w w' h hb => by
    obtain ⟨g, e, hg, hh⟩ := h
    have hlt : g < w.heap.size := by
      rcases Nat.lt_or_ge g w.heap.size with h1 | h1
      · exact h1
      · rw [Array.getElem?_eq_none h1] at hh; cases hh
    exact ⟨g, e, hg, (Below.block hb g hlt).trans hh⟩⟩
end Go.Proofs.Ytjckpammcgeloaa
namespace Go.Proofs.Ytjckpammcgeloaa
open Go.RowKit
def inI (n lo hi : Int) : Bool := decide (lo ≤ n ∧ n ≤ hi)
theorem inI_lo {n lo hi : Int} (h : ¬ lo ≤ n) : false = inI n lo hi := by unfold inI; exact (decide_eq_false (fun h1 => h h1.1)).symm
theorem inI_hi {n lo hi : Int} (h : lo ≤ n) : decide (n ≤ hi) = inI n lo hi := by unfold inI; simp [h]
theorem inI_of {n lo hi : Int} (h : inI n lo hi = true) : lo ≤ n ∧ n ≤ hi := of_decide_eq_true h
theorem inI_no {n lo hi : Int} (h : inI n lo hi = false) : ¬ (lo ≤ n ∧ n ≤ hi) := of_decide_eq_false h
theorem in_any (n lo hi : Int) (w : World) :
    Calls Try.prog 35 #[.int .i64 n, .int .i64 lo, .int .i64 hi] w (Ret (.bool (inI n lo hi)) w) := by
  by_cases h : lo ≤ n
  · have HV := Lib.hid (inI_hi (hi := hi) h)
    go_enter Try.func35, Try.ntmps35
    go_wp2_with fail
    go_ret
    exact Ret.bool HV.out
  · have HV := Lib.hid (inI_lo (hi := hi) h)
    go_enter Try.func35, Try.ntmps35
    go_wp2_with fail
    go_ret
    exact Ret.bool HV.out
theorem in_yes (n lo hi : Int) (h : inI n lo hi = true) (w : World) :
    Calls Try.prog 35 #[.int .i64 n, .int .i64 lo, .int .i64 hi] w (Ret (.bool true) w) := by
  have := in_any n lo hi w
  rwa [h] at this
theorem in_no (n lo hi : Int) (h : inI n lo hi = false) (w : World) :
    Calls Try.prog 35 #[.int .i64 n, .int .i64 lo, .int .i64 hi] w (Ret (.bool false) w) := by
  have := in_any n lo hi w
  rwa [h] at this
end Go.Proofs.Ytjckpammcgeloaa
