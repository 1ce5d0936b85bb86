/-
  Words that all later texts of this claim use: what a call returns, and what it leaves of memory.
  What the statements' own small functions do: Mod, Light, Roll, Next, Same; slices that read as lists of numbers; dice.
  Arrays of numbers that a call made itself, written in place.
  Plain arithmetic: primes, Fermat's little theorem. No program in sight.
  Fields: contracts of the program's functions on elements.
  Fields for the layers above: inverses, primes of the dice, the document's differences and inverses.
  Lists of natural numbers in memory; lists that dice give; combinations of lists.
  Lists of elements, the document's combination of lists; which numbers are prime by the document.
  Plain polynomials with whole coefficients, taken modulo a prime: roots, places and weights, the one polynomial through points. No program in sight.
  Conditions: those that each theorem names.
-/
import Derived.Test.YtlhipgejiacklaaDoorProg
import Derived.WalkKit
import Derived.WalkSpells
import Derived.WalkLawsBesides
import Derived.Deep.QuietTactic
import Derived.BigQuiet
import Derived.Lib.Hide
import Derived.WalkSmall
set_option linter.unusedVariables false
set_option linter.unusedSimpArgs false
namespace Go.Proofs.YtlhipgejiacklaaDoor
open Go.RowKit

/-- The call returns v and leaves the world as it was. -/
def Ret (v : Value) (w : World) (e : Ending) (w' : World) : Prop := e = .returned v ∧ w' = w
/-- The call returns v; what was there is as it was. -/
def RetB (v : Value) (w : World) (e : Ending) (w' : World) : Prop := e = .returned v ∧ Below w.heap.size w w'
/-- The call returns something of which Φ holds; what was there is as it was. -/
def RetP (Φ : Value → World → Prop) (w : World) (e : Ending) (w' : World) : Prop := ∃ v, e = .returned v ∧ Below w.heap.size w w' ∧ Φ v w'

theorem Ret.val {v u : Value} {w : World} (h : u = v) : Ret v w (.returned u) w := ⟨by rw [h], rfl⟩
theorem Ret.int {k : IntKind} {m u : Int} {w : World} (h : u = m) : Ret (.int k m) w (.returned (.int k u)) w := ⟨by rw [h], rfl⟩
theorem Ret.bool {m u : Bool} {w : World} (h : u = m) : Ret (.bool m) w (.returned (.bool u)) w := ⟨by rw [h], rfl⟩
theorem RetB.val {v u : Value} {w w' : World} (h : u = v) (hb : Below w.heap.size w w') : RetB v w (.returned u) w' := ⟨by rw [h], hb⟩
theorem RetB.int {k : IntKind} {m u : Int} {w w' : World} (h : u = m) (hb : Below w.heap.size w w') : RetB (.int k m) w (.returned (.int k u)) w' := ⟨by rw [h], hb⟩
theorem RetB.bool {m u : Bool} {w w' : World} (h : u = m) (hb : Below w.heap.size w w') : RetB (.bool m) w (.returned (.bool u)) w' := ⟨by rw [h], hb⟩
theorem RetP.mk {Φ : Value → World → Prop} {v : Value} {w w' : World} (hb : Below w.heap.size w w') (h : Φ v w') : RetP Φ w (.returned v) w' := ⟨v, rfl, hb, h⟩

/-- What a world that keeps all below says of old cells. -/
theorem bcell {B : Nat} {W w1 : World} (hb : Below B W w1) : (∀ b o, b < B → w1.cell? ⟨b, o, none⟩ = W.cell? ⟨b, o, none⟩) ∧ (∀ b o, b < B → w1.frozen? ⟨b, o, none⟩ = W.frozen? ⟨b, o, none⟩) :=
  ⟨fun b o h => hb.cell (p := ⟨b, o, none⟩) h, fun b o h => hb.frozen (p := ⟨b, o, none⟩) h⟩

/-- A world in which all that was there stands as it stood, and more may have come. -/
structure Grew (w : World) where
  to : World
  ok : Below w.heap.size w to
instance (w : World) : Nonempty (Grew w) := ⟨⟨w, Below.refl _ _⟩⟩
def grewW (w : World) (t : Grew w) : World := t.to
theorem grewW.below (w : World) (t : Grew w) : Below w.heap.size w (grewW w t) := t.ok
@[simp, go_sem] theorem cell_grewW (w : World) (t : Grew w) (b o : Nat) (h : b < w.heap.size) : (grewW w t).cell? ⟨b, o, none⟩ = w.cell? ⟨b, o, none⟩ := t.ok.cell h
@[simp, go_sem] theorem frozen_grewW (w : World) (t : Grew w) (b o : Nat) (h : b < w.heap.size) : (grewW w t).frozen? ⟨b, o, none⟩ = w.frozen? ⟨b, o, none⟩ := t.ok.frozen h
theorem IsGrew {w w' : World} (h : Below w.heap.size w w') : ∃ t, w' = grewW w t := ⟨⟨w', h⟩, rfl⟩

/-- A region that draws its order, whose operations read what was there, and whose callees keep it: the walk in the text's order serves. -/
theorem wp_region_grew {P : Program} {id : Nat} {Q : Exit → Act → World → Prop} {a : Act} {w : World} {l : List Oper} (hm : P.follows .mixedOrders = true) (hB : Region.lexB .any l.toArray = true)
    (h : wpQuiet P l.toArray (fun w' => ∃ t, w' = grewW w t) (fun a' => ∀ w', Below w.heap.size w w' → Q .normal a' w') l a) : (Code.region id l.toArray true).wp P Q a w := by
  refine wp_region_quiet (C := fun w' => ∃ t, w' = grewW w t) hm hB (IsGrew (Below.refl _ _).drew) ?_
  have e : (fun a' => ∀ w', (∃ t, w' = grewW w t) → Q .normal a' w') = (fun a' => ∀ w', Below w.heap.size w w' → Q .normal a' w') := by
    funext a'
    exact propext ⟨fun g w' hb => g w' (IsGrew hb), fun g w' ⟨t, ht⟩ => ht ▸ g _ t.ok⟩
  rw [e]
  simpa using h
/-- A callee's contract, met in a grown world. -/
theorem grew_of {P : Program} {f : FuncId} {args : Array Value} {w : World} {t : Grew w} {v : Value}
    (h : Calls P f args (grewW w t) (RetB v (grewW w t))) : Calls P f args (grewW w t) fun e w'' => e = .returned v ∧ ∃ m, w'' = grewW w m :=
  h.mono fun _ _ ⟨he, hb⟩ => ⟨he, IsGrew (t.ok.trans (hb.mono t.ok.size))⟩
theorem grew_same {P : Program} {f : FuncId} {args : Array Value} {w : World} {t : Grew w} {v : Value}
    (h : Calls P f args (grewW w t) (Ret v (grewW w t))) : Calls P f args (grewW w t) fun e w'' => e = .returned v ∧ ∃ m, w'' = grewW w m :=
  h.mono fun _ _ ⟨he, hb⟩ => ⟨he, t, hb⟩

/-- The world behind a name. -/
theorem gen_world {P : Program} {c : Code} {Q : Exit → Act → World → Prop} {a : Act} {w : World} (h : ∀ w1, w1 = w → c.wp P Q a w1) : c.wp P Q a w := h w rfl

theorem ownsRow_mono {w : World} {base base' : Nat} {e : TypeId} {size : Nat} {v : Value} {n : Nat} {xs : List Value} (h : w.ownsRow base e size v n xs) (hb : base' ≤ base) : w.ownsRow base' e size v n xs := by
  obtain ⟨h1, h2⟩ := h
  refine ⟨h1, ?_⟩
  rcases h2 with h2 | ⟨g, cap, cur, hv, hg, r⟩
  · exact Or.inl h2
  · exact Or.inr ⟨g, cap, cur, hv, Nat.le_trans hb hg, r⟩

theorem own_below {w w' : World} {base : Nat} {e : TypeId} {size : Nat} {v : Value} {n : Nat} {xs : List Value} (h : w.ownsRow base e size v n xs) (hb : Below w.heap.size w w') : w'.ownsRow base e size v n xs := by
  obtain ⟨h1, h2⟩ := h
  refine ⟨h1, ?_⟩
  rcases h2 with h2 | ⟨g, cap, cur, hv, hg, hh, r⟩
  · exact Or.inl h2
  · refine Or.inr ⟨g, cap, cur, hv, hg, ?_, r⟩
    have hlt : g < w.heap.size := by
      rcases Nat.lt_or_ge g w.heap.size with hlt | hge
      · exact hlt
      · rw [Array.getElem?_eq_none hge] at hh; cases hh
    exact (hb.block g hlt).trans hh

/-- append of one element onto a row of the call's own, the element's slice just made. -/
theorem app_one {P : Program} {ops : Array Oper} {rest : List Oper} {o : Oper} {a : Act} {Q : Exit → Act → World → Prop} (hgd : o.guard = none) (s x : Operand) (t : TypeId)
    (ho : o.op = .call { callee := .builtin .append, args := #[s, x], argTypes := #[t, t] })
    {base : Nat} {e : TypeId} {z : Value} {bytes : Nat} (ht : P.underlying t = some (.slice e)) (hinfo : (P.info? e).map (fun i => (i.zero, i.size, i.bytes)) = some (some z, 1, bytes)) (hzs : z.cells.size = 1)
    {w : World} {v : Value} {n : Nat} {xs : List Value} {u : Value} (hs : a.eval s = v) (hown : w.ownsRow base e 1 v n xs)
    (hx : a.eval x = .slice (some ⟨w.heap.size, 0, none⟩) 1 1) (h1 : u.oneCell' = true) (h63 : n + 1 ≤ maxLen) (hbytes : (n + 1) * bytes ≤ 140737488355328) (hbase : base ≤ w.heap.size)
    (h : ∀ v' w', w'.ownsRow base e 1 v' (n + 1) (xs ++ [u]) → w.grownBy w' v.ownBlock → Below base w w' → wpList P ops Q rest (a.put o.dst v') w') :
    wpList P ops Q (o :: rest) a (w.alloc (.cells #[u] e)) := by
  obtain ⟨i0, hi, hz0, hz1, hz2⟩ := info_parts hinfo
  refine wpList_append_own _ hgd s x t ho base e i0 z 1 bytes ht hi hz0 hz1 hz2 hzs (by omega) v n xs hs (hown.alloc _) ⟨w.heap.size, 0, none⟩ 1 1 [u] hx rfl ?_ ?_ h63 hbytes (by simp; omega) ?_
  · intro j y hj
    rcases j with _ | j
    · simp at hj; subst hj
      simp [Addr.add]
    · simp at hj
  · intro y hy; simp at hy; subst hy; exact h1
  · intro v' w' h2 h3 _
    have hg : w.grownBy w' v.ownBlock := ⟨h3.os, h3.tape, h3.output, Nat.le_trans (by simp) h3.size, fun k hk hne => (h3.block k (by simp; omega) hne).trans (Below.heap_alloc w _ k hk)⟩
    exact h v' w' h2 hg ((Below.refl _ _).grown hg hbase (fun k hk => (hown.lt k hk).1))
end Go.Proofs.YtlhipgejiacklaaDoor
namespace Go.Proofs.YtlhipgejiacklaaDoor
open Go.RowKit

theorem info_int : (Tryd.prog.info? 3).map (fun i => (i.zero, i.size, i.bytes)) = some (some (.int .i64 0), 1, 8) := by kernel_rfl

/-- Number k of a list (0 behind its end). -/
def nth (L : List Int) (k : Nat) : Int := L.getD k 0
theorem nth_eq {L : List Int} {k : Nat} (h : k < L.length) : nth L k = L[k] := by simp [nth, List.getD_eq_getElem?_getD, h]
/-- The address A leads to the numbers L. -/
def IntsAt (w : World) (A : Option Addr) (L : List Int) : Prop :=
  ∀ k, k < L.length → ∃ b off, A = some ⟨b, off, none⟩ ∧ b < w.heap.size ∧ w.cell? ⟨b, off + k, none⟩ = some (.int .i64 (nth L k))
theorem IntsAt.nil (w : World) (A : Option Addr) : IntsAt w A [] := fun k h => absurd h (by simp)
theorem IntsAt.below {w w' : World} {A : Option Addr} {L : List Int} (h : IntsAt w A L) (hb : Below w.heap.size w w') : IntsAt w' A L := fun k hk => by
  obtain ⟨b, off, hA, hlt, hc⟩ := h k hk
  exact ⟨b, off, hA, Nat.lt_of_lt_of_le hlt hb.size, (hb.cell hlt).trans hc⟩
theorem IntsAt.drew {w : World} {A : Option Addr} {L : List Int} (h : IntsAt w A L) (n : Nat) : IntsAt (w.drewN n) A L := h
theorem IntsAt.of_own {w : World} {base : Nat} {v : Value} {L : List Int} {n : Nat} (h : w.ownsRow base 3 1 v n (L.map (Value.int .i64))) (hn : n = L.length) : ∃ A c, v = .slice A L.length c ∧ IntsAt w A L := by
  subst hn
  rcases h.2 with ⟨rfl, h0⟩ | ⟨g, cap, cur, rfl, hg, hh, hnc, hcm, hcs, htk⟩
  · have : L = [] := List.eq_nil_of_length_eq_zero h0
    subst this
    exact ⟨none, 0, rfl, IntsAt.nil _ _⟩
  · refine ⟨some ⟨g, 0, none⟩, cap, rfl, fun k hk => ⟨g, 0, rfl, ?_, ?_⟩⟩
    · rcases Nat.lt_or_ge g w.heap.size with hlt | hge
      · exact hlt
      · rw [Array.getElem?_eq_none hge] at hh; cases hh
    · have := h.cellAt (j := k) (by omega)
      rw [Nat.zero_add, this, List.getElem?_map, nth_eq hk, List.getElem?_eq_getElem hk]
      rfl
theorem IntsAt.len_le {w : World} {base : Nat} {A : Option Addr} {n c : Nat} {xs : List Value} {e : TypeId} (h : w.ownsRow base e 1 (.slice A n c) n xs) : n ≤ maxLen := by
  rcases h.2 with ⟨_, h0⟩ | ⟨g, cap, cur, _, hg, hh, hnc, hcm, hcs, htk⟩
  · omega
  · omega

def modI (n m : Int) : Int := if m < 1 then 0 else n % m
theorem modI_lt (n m : Int) (h : m < 1) : modI n m = 0 := if_pos h
theorem modI_ge (n m : Int) (h : ¬ m < 1) : modI n m = n % m := if_neg h
theorem modI_range (n m : Int) (h : 1 ≤ m) : 0 ≤ modI n m ∧ modI n m < m := by
  rw [modI_ge n m (by omega)]; exact ⟨Int.emod_nonneg _ (by omega), Int.emod_lt_of_pos _ (by omega)⟩
theorem modI_tmod (n m : Int) (h : ¬ m < 1) : n.tmod m % m = modI n m := by
  rw [modI_ge n m h, Int.tmod_def, Int.sub_mul_emod_self_left]
def nextV (R : List Int) (n : Int) : Int := match R with | [] => 0 | x :: _ => modI x n
theorem nextV_range (R : List Int) (n : Int) (h : 1 ≤ n) : 0 ≤ nextV R n ∧ nextV R n < n := by
  cases R with
  | nil => exact ⟨Int.le_refl _, by simp [nextV]; omega⟩
  | cons x R => exact modI_range x n h

set_option maxHeartbeats 400000 in
theorem mod_any (n m : Int) (w : World) (hm : m ≤ 4611686018427387904) :
    Calls Tryd.prog 33 #[.int .i64 n, .int .i64 m] w (Ret (.int .i64 (modI n m)) w) := by
  by_cases h : m < 1
  · go_enter Tryd.func33, Tryd.ntmps33
    go_wp2
    go_ret
    exact Ret.int (modI_lt n m h).symm
  · have h1 := Int.tmod_lt_of_pos n (b := m) (by omega)
    have h2 := Int.lt_tmod_of_pos n (b := m) (by omega)
    have HE := Lib.hid (modI_tmod n m h)
    go_enter Tryd.func33, Tryd.ntmps33
    go_wp2
    go_ret
    exact Ret.int HE.out

set_option maxHeartbeats 400000 in
theorem light_any (A : Option Addr) (n c : Nat) (w : World) :
    Calls Tryd.prog 13 #[.slice A n c] w (Ret (.bool (decide ((n : Int) ≤ 500))) w) := by
  go_enter Tryd.func13, Tryd.ntmps13
  go_wp2
  go_ret
  exact Ret.bool rfl

/-- Block D is dice that have the numbers R still to give; what they were made of lies before them. -/
def DiceAt (w : World) (D : Nat) (R : List Int) : Prop :=
  ∃ (A : Option Addr) (c : Nat) (L : List Int) (i : Nat), w.heap[D]? = some (.cells #[.slice A L.length c, .int .i64 i] 67 (0, 0)) ∧ i ≤ L.length ∧ L.length ≤ maxLen ∧ R = L.drop i ∧
    ∀ k, k < L.length → ∃ b off, A = some ⟨b, off, none⟩ ∧ b < D ∧ w.cell? ⟨b, off + k, none⟩ = some (.int .i64 (nth L k))
theorem DiceAt.lt {w : World} {D : Nat} {R : List Int} (h : DiceAt w D R) : D < w.heap.size := by
  obtain ⟨A, c, L, i, hD, _⟩ := h
  rcases Nat.lt_or_ge D w.heap.size with hlt | hge
  · exact hlt
  · rw [Array.getElem?_eq_none hge] at hD; cases hD
/-- Dice stand where nothing up to them has turned. -/
theorem DiceAt.keep {w w' : World} {D : Nat} {R : List Int} (h : DiceAt w D R) (hb : ∀ k, k ≤ D → w'.heap[k]? = w.heap[k]?) : DiceAt w' D R := by
  obtain ⟨A, c, L, i, hD, hi, hl, hR, hc⟩ := h
  refine ⟨A, c, L, i, (hb D (Nat.le_refl _)).trans hD, hi, hl, hR, fun k hk => ?_⟩
  obtain ⟨b, off, hA, hbl, hcell⟩ := hc k hk
  exact ⟨b, off, hA, hbl, (World.cell?_of_block (w := w) (hb b (Nat.le_of_lt hbl))).trans hcell⟩
theorem DiceAt.below {w w' : World} {D : Nat} {R : List Int} (h : DiceAt w D R) (hb : Below w.heap.size w w') : DiceAt w' D R := by
  have hlt := h.lt
  exact h.keep fun k hk => hb.block k (by omega)
theorem DiceAt.setCell {w : World} {D : Nat} {R : List Int} (h : DiceAt w D R) (p : Addr) (v : Value) (hp : D < p.block) : DiceAt (w.setCell p v) D R :=
  h.keep fun k hk => Below.heap_setCell w p v k (by omega)
theorem DiceAt.drewN {w : World} {D : Nat} {R : List Int} (h : DiceAt w D R) (n : Nat) : DiceAt (w.drewN n) D R := h

set_option maxHeartbeats 400000 in
theorem roll_any (A : Option Addr) (L : List Int) (c : Nat) (w : World) (hl : L.length ≤ maxLen) (h : IntsAt w A L) :
    Calls Tryd.prog 15 #[.slice A L.length c] w
      (fun e w' => ∃ D, e = .returned (.pointer (some ⟨D, 0, none⟩)) ∧ w.heap.size ≤ D ∧ DiceAt w' D L ∧ Below w.heap.size w w') := by
  go_enter Tryd.func15, Tryd.ntmps15
  go_wp2
  go_ret
  refine ⟨_, rfl, Nat.le_refl _, ⟨A, c, L, 0, ?_, Nat.zero_le _, hl, rfl, fun k hk => ?_⟩, (Below.refl _ _).alloc (Nat.le_refl _) _⟩
  · exact heap_alloc_new w _
  · obtain ⟨b, off, hA, hlt, hc⟩ := h k hk
    refine ⟨b, off, hA, hlt, ?_⟩
    rw [World.cell?_alloc_past _ _ _ hlt]; exact hc

/-- What dice leave of memory: their own block alone turns, and new blocks come. -/
def NextP (D : Nat) (x : Int) (R : List Int) (w : World) (e : Ending) (w' : World) : Prop := e = .returned (.int .i64 x) ∧ DiceAt w' D R ∧ w.grownBy w' (some D)

theorem nextV_drop {L : List Int} {i : Nat} (n : Int) (hk : i < L.length) : modI (nth L i) n = nextV (L.drop i) n := by
  rw [List.drop_eq_getElem_cons hk]; simp [nextV, nth_eq hk]
theorem dice_step {w : World} {D : Nat} {A : Option Addr} {c : Nat} {L : List Int} {i : Nat} {R : List Int} (n : Int) (a b : Nat)
    (hD : w.heap[D]? = some (.cells #[.slice A L.length c, .int .i64 i] 67 (0, 0))) (hk : i < L.length) (hl : L.length ≤ maxLen) (hR : R = L.drop i)
    (hc : ∀ k, k < L.length → ∃ b off, A = some ⟨b, off, none⟩ ∧ b < D ∧ w.cell? ⟨b, off + k, none⟩ = some (.int .i64 (nth L k))) :
    NextP D (nextV R n) R.tail w (.returned (.int .i64 (modI (nth L i) n))) (((w.drewN a).setCell ⟨D, 1, none⟩ (.int .i64 ((i : Int) + 1))).drewN b) := by
  subst hR
  refine ⟨by rw [nextV_drop n hk], ⟨A, c, L, i + 1, ?_, hk, hl, by simp, fun k hk => ?_⟩, ⟨rfl, rfl, rfl, by simp [World.setCell], fun k hk hne => ?_⟩⟩
  · simp [World.setCell, Array.getElem?_modify, hD]
  · obtain ⟨b', off, hA, hlt, hcell⟩ := hc k hk
    refine ⟨b', off, hA, hlt, ?_⟩
    rw [World.cell?_drewN, World.cell?_setCell_other _ _ _ _ (fun e => by injection e with e1; omega)]
    exact hcell
  · exact Below.heap_setCell (w.drewN a) ⟨D, 1, none⟩ _ k (fun e => hne (by rw [e]))

set_option maxHeartbeats 400000 in
theorem next_any (D : Nat) (R : List Int) (n : Int) (w : World) (h : DiceAt w D R) (hn : n ≤ 4611686018427387904) :
    Calls Tryd.prog 19 #[.pointer (some ⟨D, 0, none⟩), .int .i64 n] w (NextP D (nextV R n) R.tail w) := by
  have hlt := h.lt
  obtain ⟨A, c, L, i, hD, hi, hl, hR, hc⟩ := h
  unfold maxLen at hl
  have c0 := cell_of_row w D 0 _ _ (0, 0) hD
  have c1 := cell_of_row w D 1 _ _ (0, 0) hD
  have f1 : w.frozen? ⟨D, 1, none⟩ = false := by simp [World.frozen?, hD]
  simp at c0 c1
  by_cases hk : i < L.length
  · obtain ⟨b, off, rfl, hbl, hcell⟩ := hc i hk
    have HS := Lib.hid (fun a b => dice_step (R := R) n a b hD hk hl hR hc)
    clear hD hR hc
    go_enter Tryd.func19, Tryd.ntmps19
    go_wp2
    go_quiet (fail)
    go_wp2
    have hne' : ¬ (⟨D, 1, none⟩ : Addr) = ⟨b, off + i, none⟩ := fun e => by injection e with e1; omega
    have hcell' : ((w.drewN nq).setCell ⟨D, 1, none⟩ (.int .i64 ((i : Int) + 1))).cell? ⟨b, off + i, none⟩ = some (.int .i64 (nth L i)) := by
      rw [World.cell?_setCell_other _ _ _ _ hne']; exact hcell
    go_quiet ((go_at_call 33; exact Calls.quiet_of_same (mod_any _ _ _ hn)))
    go_wp2
    go_ret
    exact HS.out _ _
  · have HS : Hid (∀ a, NextP D (nextV R n) R.tail w (.returned (.int .i64 0)) (w.drewN a)) := fun a => by
      have hn : R = [] := by rw [hR, List.drop_eq_nil_of_le (by omega)]
      subst hn
      refine ⟨rfl, ?_, ⟨rfl, rfl, rfl, Nat.le_refl _, fun _ _ _ => rfl⟩⟩
      exact ⟨A, c, L, i, hD, hi, hl, by simpa using hR, hc⟩
    clear hD hR hc
    go_enter Tryd.func19, Tryd.ntmps19
    go_wp2
    go_quiet (fail)
    go_wp2
    go_ret
    exact HS.out _

def sameL (L M : List Int) : Bool := decide (L = M)
theorem sameL_len {L M : List Int} (h : L.length ≠ M.length) : false = sameL L M := by
  simp only [sameL]; exact (decide_eq_false (fun e => h (by rw [e]))).symm
theorem sameL_at {L M : List Int} (k : Nat) (h : nth L k ≠ nth M k) : false = sameL L M := by
  simp only [sameL]; exact (decide_eq_false (fun e => h (by rw [e]))).symm
theorem sameL_all {L M : List Int} (hl : L.length = M.length) (h : L.take L.length = M.take L.length) : true = sameL L M := by
  simp only [sameL]; refine (decide_eq_true ?_).symm
  rw [List.take_length, hl, List.take_length] at h; exact h
theorem take_snoc_getD (L : List Int) (k : Nat) (h : k < L.length) : L.take (k + 1) = L.take k ++ [nth L k] := by
  rw [List.take_succ_eq_append_getElem h, nth_eq h]

set_option maxHeartbeats 400000 in
theorem same_any (A A' : Option Addr) (L M : List Int) (c c' : Nat) (w : World) (hL : IntsAt w A L) (hM : IntsAt w A' M) (hl : L.length ≤ 1152921504606846976) :
    Calls Tryd.prog 29 #[.slice A L.length c, .slice A' M.length c'] w (Ret (.bool (sameL L M)) w) := by
  by_cases hlen : L.length = M.length
  · have HL := Lib.hid hlen
    have hlM : M.length ≤ L.length := by omega
    have hlM' : L.length ≤ M.length := by omega
    have heq : ((L.length : Int) != (M.length : Int)) = false := by simp [hlen]
    clear hlen
    go_enter Tryd.func29, Tryd.ntmps29
    go_wp2
    go_loop [14] (fun j => ∃ k : Nat, k ≤ L.length ∧ j = .int .i64 k ∧ L.take k = M.take k) (fun j => L.length - (intOf j).toNat)
    case atStart => exact ⟨0, Nat.zero_le _, rfl, rfl⟩
    case round =>
      obtain ⟨k, hk, rfl, hpre⟩ := hrel
      have HP := Lib.hid hpre
      clear hpre
      by_cases hlt : k < L.length
      · obtain ⟨b, off, rfl, _, hcell⟩ := hL k hlt
        obtain ⟨b', off', rfl, _, hcell'⟩ := hM k (by omega)
        by_cases hx : nth L k = nth M k
        · have hx' : (nth M k != nth L k) = false := by simp [hx]
          have HX := Lib.hid hx
          clear hx hL hM
          go_wp2
          go_round
          case rel => exact ⟨k + 1, by omega, by go_num, by rw [take_snoc_getD L k hlt, take_snoc_getD M k (by omega), HP.out, HX.out]⟩
          case measure => simp [intOf]; omega
        · have hx' : (nth M k != nth L k) = true := by simp; exact fun e => hx e.symm
          have HX := Lib.hid hx
          clear hx hL hM
          go_wp2
          go_ret
          exact Ret.bool (sameL_at k HX.out)
      · go_wp2
        go_ret
        refine Ret.bool (sameL_all HL.out ?_)
        have := HP.out
        rw [show L.length = k by omega]; exact this
  · have heq : ((L.length : Int) != (M.length : Int)) = true := by simp; omega
    go_enter Tryd.func29, Tryd.ntmps29
    go_wp2
    go_ret
    exact Ret.bool (sameL_len hlen)
theorem same_refl (A A' : Option Addr) (L : List Int) (c c' : Nat) (w : World) (hL : IntsAt w A L) (hM : IntsAt w A' L) (hl : L.length ≤ 1152921504606846976) :
    Calls Tryd.prog 29 #[.slice A L.length c, .slice A' L.length c'] w (Ret (.bool true) w) := by
  have := same_any A A' L L c c' w hL hM hl
  rw [show sameL L L = true by simp [sameL]] at this; exact this
end Go.Proofs.YtlhipgejiacklaaDoor
namespace Go.Proofs.YtlhipgejiacklaaDoor
open Go.RowKit

/-- Block g is just the numbers cs. -/
def IntBlk (w : World) (g : Nat) (cs : List Int) : Prop := w.heap[g]? = some (.cells (cs.map (Value.int .i64)).toArray 3 (0, 0))
theorem IntBlk.lt {w : World} {g : Nat} {cs : List Int} (h : IntBlk w g cs) : g < w.heap.size := by
  rcases Nat.lt_or_ge g w.heap.size with hlt | hge
  · exact hlt
  · unfold IntBlk at h; rw [Array.getElem?_eq_none hge] at h; cases h
theorem IntBlk.cell {w : World} {g : Nat} {cs : List Int} (h : IntBlk w g cs) (j : Nat) (hj : j < cs.length) : w.cell? ⟨g, j, none⟩ = some (.int .i64 (nth cs j)) := by
  rw [cell_of_row w g j _ _ (0, 0) h, nth_eq hj]; simp [hj]
theorem IntBlk.frozen {w : World} {g : Nat} {cs : List Int} (h : IntBlk w g cs) (j : Nat) : w.frozen? ⟨g, j, none⟩ = false := by
  unfold IntBlk at h; simp [World.frozen?, h]
theorem IntBlk.set_ {w : World} {g : Nat} {cs : List Int} (h : IntBlk w g cs) (j : Nat) (x : Int) : IntBlk (w.setCell ⟨g, j, none⟩ (.int .i64 x)) g (cs.set j x) := by
  unfold IntBlk at h ⊢
  simp [World.setCell, Array.getElem?_modify, h, List.map_set]
theorem IntBlk.drew {w : World} {g : Nat} {cs : List Int} (h : IntBlk w g cs) (n : Nat) : IntBlk (w.drewN n) g cs := h
theorem IntBlk.below {w w' : World} {g : Nat} {cs : List Int} (h : IntBlk w g cs) (hb : Below w.heap.size w w') : IntBlk w' g cs := (hb.block g h.lt).trans h
theorem IntBlk.ints {w : World} {g : Nat} {cs : List Int} (h : IntBlk w g cs) : IntsAt w (some ⟨g, 0, none⟩) cs := fun k hk =>
  ⟨g, 0, rfl, h.lt, by rw [Nat.zero_add]; exact h.cell k hk⟩
theorem IntBlk.of_own {w : World} {base g n : Nat} {L : List Int} (h : w.ownsRow base 3 1 (.slice (some ⟨g, 0, none⟩) n n) n (L.map (Value.int .i64))) : IntBlk w g L := by
  rcases h.2 with ⟨h0, _⟩ | ⟨g', cap, cur, hv, hg, hh, hnc, hcm, hcs, htk⟩
  · cases h0
  · injection hv with h1 h2 h3
    injection h1 with h1
    injection h1 with h1
    subst h1; subst h3
    unfold IntBlk
    rw [hh, ← htk, Nat.mul_one, List.take_of_length_le (by simp; omega)]
theorem below_drewN {B : Nat} {a w : World} (h : Below B a w) (n : Nat) : Below B a (w.drewN n) := ⟨h.os, h.tape, h.output, h.size, h.block⟩
theorem below_trans {w w1 w2 : World} (h1 : Below w.heap.size w w1) (h2 : Below w1.heap.size w1 w2) : Below w.heap.size w w2 := h1.trans (h2.mono h1.size)
theorem nth_set_same (cs : List Int) (j : Nat) (x : Int) (h : j < cs.length) : nth (cs.set j x) j = x := by
  rw [nth_eq (by simpa using h)]; simp
theorem nth_set_other (cs : List Int) (j k : Nat) (x : Int) (h : j ≠ k) : nth (cs.set j x) k = nth cs k := by
  simp [nth, List.getD_eq_getElem?_getD, h]
theorem nth_replicate (n k : Nat) : nth (List.replicate n 0) k = 0 := by
  simp only [nth, List.getD_eq_getElem?_getD, List.getElem?_replicate]; split <;> rfl
theorem list_ext_nth {L M : List Int} (hl : L.length = M.length) (h : ∀ k, k < L.length → nth L k = nth M k) : L = M := by
  refine List.ext_getElem hl fun k h1 h2 => ?_
  rw [← nth_eq h1, ← nth_eq h2]; exact h k h1

/-- make of n numbers. -/
theorem make_ints {ops : Array Oper} {rest : List Oper} {o : Oper} {a : Act} {Q : Exit → Act → World → Prop} (hg : o.guard = none) (l c : Operand) (hop : o.op = Op.makeSlice 22 l c)
    {w : World} {m : Int} (n : Nat) (hl : a.eval l = .int .i64 m) (hc : a.eval c = .int .i64 m) (hm : m = (n : Int)) (hn : n ≤ 1099511627776)
    (hK : ∀ w', IntBlk w' w.heap.size (List.replicate n 0) → Below w.heap.size w w' → wpList Tryd.prog ops Q rest (a.put o.dst (.slice (some ⟨w.heap.size, 0, none⟩) n n)) w') :
    wpList Tryd.prog ops Q (o :: rest) a w := by
  obtain ⟨i0, hi, hz0, hz1, hz2⟩ := info_parts info_int
  refine wpList_make_full w hg l c 22 hop w.heap.size 3 i0 _ 1 Tryd.underlying22 hi hz0 hz1 .i64 .i64 m m n hl hc hm hm (by rw [hz2]; omega) (by simp only [maxLen]; omega) (Nat.le_refl _) ?_
  intro w' hown hgr
  refine hK w' ?_ ⟨hgr.os, hgr.tape, hgr.output, hgr.size, fun k hk => hgr.block k hk (by simp)⟩
  rw [Nat.mul_one, show (Value.int .i64 0).cells = #[Value.int .i64 0] from rfl, toList_madeCells_one, ← List.map_replicate] at hown
  exact IntBlk.of_own hown

theorem ret_pure {P : Program} {f : FuncId} {args : Array Value} {w : World} {v : Value} {R : Ending → World → Prop} (h : Calls P f args w (Ret v w)) (hr : R (.returned v) w) : Calls P f args w R :=
  h.mono (by rintro e w1 ⟨rfl, rfl⟩; exact hr)
theorem ret_below {P : Program} {f : FuncId} {args : Array Value} {w : World} {v : Value} {R : Ending → World → Prop} (h : Calls P f args w (RetB v w)) (hr : ∀ w', Below w.heap.size w w' → R (.returned v) w') : Calls P f args w R :=
  h.mono (by rintro e w1 ⟨rfl, hb⟩; exact hr w1 hb)

/-! ### Dice -/
theorem dice_of_below {w w' : World} {D : Nat} {R : List Int} (h : DiceAt w D R) (hb : Below w.heap.size w w') : DiceAt w' D R := h.below hb
/-- A slice stands while dice are thrown, if it does not lie in the dice. -/
theorem IntsAt.grown {w w' : World} {A : Option Addr} {L : List Int} {D : Nat} (h : IntsAt w A L) (hg : w.grownBy w' (some D)) (hD : ∀ b off, A = some ⟨b, off, none⟩ → b ≠ D) : IntsAt w' A L := fun k hk => by
  obtain ⟨b, off, hA, hlt, hc⟩ := h k hk
  exact ⟨b, off, hA, Nat.lt_of_lt_of_le hlt hg.size, (World.cell?_of_block (w := w) (hg.block b hlt (by intro e; injection e with e; exact hD b off hA e))).trans hc⟩
theorem grown_cell {w w' : World} {D : Nat} (hg : w.grownBy w' (some D)) (b o : Nat) (hb : b < w.heap.size) (hne : b ≠ D) : w'.cell? ⟨b, o, none⟩ = w.cell? ⟨b, o, none⟩ :=
  World.cell?_of_block (w := w) (hg.block b hb (by intro e; injection e with e; exact hne e))
theorem grown_below {w w' : World} {D B : Nat} (hg : w.grownBy w' (some D)) (hB : B ≤ D) (hBs : B ≤ w.heap.size) : Below B w w' :=
  ⟨hg.os, hg.tape, hg.output, hg.size, fun k hk => hg.block k (by omega) (by intro e; injection e with e; omega)⟩
theorem grown_of_below {w w' : World} {r : Option Nat} (h : Below w.heap.size w w') : w.grownBy w' r := ⟨h.os, h.tape, h.output, h.size, fun k hk _ => h.block k hk⟩
theorem grown_trans {w w1 w2 : World} {r : Option Nat} (h1 : w.grownBy w1 r) (h2 : w1.grownBy w2 r) : w.grownBy w2 r :=
  ⟨h2.os.trans h1.os, h2.tape.trans h1.tape, h2.output.trans h1.output, Nat.le_trans h1.size h2.size, fun k hk hne => (h2.block k (Nat.lt_of_lt_of_le hk h1.size) hne).trans (h1.block k hk hne)⟩
theorem lit_ints (w : World) (L : List Int) : IntsAt (w.alloc (.cells (L.map (Value.int .i64)).toArray 3)) (some ⟨w.heap.size, 0, none⟩) L :=
  IntBlk.ints (heap_alloc_new w _)
theorem below_alloc (w : World) (o : Obj) : Below w.heap.size w (w.alloc o) := (Below.refl _ _).alloc (Nat.le_refl _) _
theorem DiceAt.alloc {w : World} {D : Nat} {R : List Int} (h : DiceAt w D R) (o : Obj) : DiceAt (w.alloc o) D R := h.below (below_alloc w o)

end Go.Proofs.YtlhipgejiacklaaDoor
namespace Go.Proofs.YtlhipgejiacklaaDoor

def PrimeN (p : Nat) : Prop := 2 ≤ p ∧ ∀ d, d ∣ p → d = 1 ∨ d = p

theorem PrimeN.coprime {p a : Nat} (hp : PrimeN p) (h : ¬ p ∣ a) : Nat.Coprime p a := by
  rcases hp.2 _ (Nat.gcd_dvd_left p a) with h1 | h1
  · exact h1
  · exact absurd (h1 ▸ Nat.gcd_dvd_right p a) h
theorem PrimeN.euclid {p a b : Nat} (hp : PrimeN p) (h : p ∣ a * b) : p ∣ a ∨ p ∣ b := by
  by_cases ha : p ∣ a
  · exact .inl ha
  · exact .inr ((hp.coprime ha).dvd_of_dvd_mul_left h)
theorem PrimeN.pow {p a : Nat} (hp : PrimeN p) : ∀ n, p ∣ a ^ n → p ∣ a := by
  intro n
  induction n with
  | zero => intro h; have h1 := Nat.le_of_dvd (by simp) h; have := hp.1; rw [Nat.pow_zero] at h1; omega
  | succ n ih =>
    intro h; rw [Nat.pow_succ] at h
    rcases hp.euclid h with h | h
    · exact ih h
    · exact h

theorem perm_of_sub {α : Type} [DecidableEq α] : ∀ (l m : List α), l.Nodup → m.length ≤ l.length → (∀ x ∈ l, x ∈ m) → l.Perm m
  | [], m, _, hl, _ => by
    have : m = [] := List.eq_nil_of_length_eq_zero (by simpa using hl)
    subst this; exact List.Perm.nil
  | x :: l, m, hn, hl, hs => by
    have hx : x ∈ m := hs x (by simp)
    have hp := List.perm_cons_erase hx
    rw [List.nodup_cons] at hn
    have ih := perm_of_sub l (m.erase x) hn.2 (by rw [List.length_erase_of_mem hx]; simp at hl; omega) (fun y hy => by
      have hne : y ≠ x := fun e => hn.1 (e ▸ hy)
      exact (List.mem_erase_of_ne hne).2 (hs y (by simp [hy])))
    exact (List.Perm.cons x ih).trans hp.symm

def prodL : List Nat → Nat
  | [] => 1
  | x :: l => x * prodL l
theorem prodL_perm {l m : List Nat} (h : l.Perm m) : prodL l = prodL m := by
  induction h with
  | nil => rfl
  | cons x _ ih => simp [prodL, ih]
  | swap x y l => simp only [prodL]; rw [Nat.mul_left_comm]
  | trans _ _ h1 h2 => exact h1.trans h2
theorem prodL_map_mod (p a : Nat) : ∀ l : List Nat, prodL (l.map fun x => a * x % p) % p = a ^ l.length * prodL l % p
  | [] => by simp [prodL]
  | x :: l => by
    have ih := prodL_map_mod p a l
    simp only [List.map_cons, prodL, List.length_cons]
    rw [Nat.mul_mod, Nat.mod_mod, ih, ← Nat.mul_mod, Nat.pow_succ]
    congr 1
    simp only [Nat.mul_assoc, Nat.mul_left_comm, Nat.mul_comm]
theorem prime_prodL {p : Nat} (hp : PrimeN p) : ∀ l : List Nat, (∀ x ∈ l, ¬ p ∣ x) → ¬ p ∣ prodL l
  | [], _, h => by have h1 := Nat.le_of_dvd (by decide) h; have := hp.1; simp only [prodL] at h1; omega
  | x :: l, hl, h => by
    rcases hp.euclid h with h | h
    · exact hl x (by simp) h
    · exact prime_prodL hp l (fun y hy => hl y (by simp [hy])) h
theorem nodup_map_inj {α β : Type} {f : α → β} : ∀ l : List α, l.Nodup → (∀ x ∈ l, ∀ y ∈ l, f x = f y → x = y) → (l.map f).Nodup
  | [], _, _ => by simp
  | x :: l, hn, hi => by
    rw [List.nodup_cons] at hn
    rw [List.map_cons, List.nodup_cons]
    refine ⟨fun h => ?_, nodup_map_inj l hn.2 (fun y hy z hz => hi y (by simp [hy]) z (by simp [hz]))⟩
    obtain ⟨y, hy, e⟩ := List.mem_map.1 h
    have := hi y (by simp [hy]) x (by simp) e
    exact hn.1 (this ▸ hy)

theorem mod_of_dvd_sub {p b c : Nat} (h : b ≤ c) (hd : p ∣ c - b) : b % p = c % p := by
  obtain ⟨k, hk⟩ := hd
  have : c = b + p * k := by omega
  rw [this, Nat.add_mul_mod_self_left]
theorem dvd_sub_of_mod {p b c : Nat} (h : b % p = c % p) : p ∣ c - b := Nat.dvd_of_mod_eq_zero (Nat.sub_mod_eq_zero_of_mod_eq h.symm)
theorem mod_cancel {p a b c : Nat} (hp : PrimeN p) (ha : ¬ p ∣ a) (h : a * b % p = a * c % p) : b % p = c % p := by
  rcases Nat.le_total b c with hbc | hbc
  · have h1 : p ∣ a * (c - b) := by rw [Nat.mul_sub]; exact dvd_sub_of_mod h
    rcases hp.euclid h1 with h2 | h2
    · exact absurd h2 ha
    · exact mod_of_dvd_sub hbc h2
  · have h1 : p ∣ a * (b - c) := by rw [Nat.mul_sub]; exact dvd_sub_of_mod h.symm
    rcases hp.euclid h1 with h2 | h2
    · exact absurd h2 ha
    · exact (mod_of_dvd_sub hbc h2).symm

/-- Fermat's little theorem. -/
theorem flt {p a : Nat} (hp : PrimeN p) (ha : ¬ p ∣ a) : a ^ (p - 1) % p = 1 := by
  have hp2 := hp.1
  have hmem : ∀ x, x ∈ List.range' 1 (p - 1) ↔ 1 ≤ x ∧ x < p := by
    intro x; rw [List.mem_range'_1]; omega
  have hnd : ∀ x ∈ List.range' 1 (p - 1), ¬ p ∣ x := by
    intro x hx h
    have := (hmem x).1 hx
    have := Nat.le_of_dvd (by omega) h
    omega
  have hperm : (List.map (fun x => a * x % p) (List.range' 1 (p - 1))).Perm (List.range' 1 (p - 1)) := by
    refine perm_of_sub _ _ (nodup_map_inj _ List.nodup_range' ?_) (by simp) ?_
    · intro x hx y hy e
      have h := mod_cancel hp ha e
      rwa [Nat.mod_eq_of_lt ((hmem x).1 hx).2, Nat.mod_eq_of_lt ((hmem y).1 hy).2] at h
    · intro y hy
      obtain ⟨x, hx, rfl⟩ := List.mem_map.1 hy
      rw [hmem]
      refine ⟨?_, Nat.mod_lt _ (by omega)⟩
      rcases Nat.eq_zero_or_pos (a * x % p) with h0 | h0
      · rcases hp.euclid (Nat.dvd_of_mod_eq_zero h0) with h | h
        · exact absurd h ha
        · exact absurd h (hnd x hx)
      · exact h0
  have h1 := prodL_map_mod p a (List.range' 1 (p - 1))
  rw [prodL_perm hperm, List.length_range'] at h1
  have h2 : prodL (List.range' 1 (p - 1)) * 1 % p = prodL (List.range' 1 (p - 1)) * a ^ (p - 1) % p := by rw [Nat.mul_one, h1, Nat.mul_comm]
  have h3 := mod_cancel hp (prime_prodL hp _ hnd) h2
  rw [← h3, Nat.mod_eq_of_lt (by omega)]

/-- A number is prime if none of the numbers up to its root divides it. -/
def primeB (p s : Nat) : Bool := decide (2 ≤ p) && decide (p < (s + 2) * (s + 2)) && (List.range s).all fun d => decide (p % (d + 2) ≠ 0) || decide (p ≤ d + 2)
theorem primeB_sound {p s : Nat} (h : primeB p s = true) : PrimeN p := by
  unfold primeB at h
  simp only [Bool.and_eq_true, Bool.or_eq_true, decide_eq_true_eq, List.all_eq_true, List.mem_range] at h
  obtain ⟨⟨h2, hs⟩, hall⟩ := h
  have key : ∀ d, 2 ≤ d → d < s + 2 → d ∣ p → p ≤ d := by
    intro d hd2 hds hdp
    have := hall (d - 2) (by omega)
    rw [show d - 2 + 2 = d by omega] at this
    rcases this with h | h
    · exact absurd (Nat.mod_eq_zero_of_dvd hdp) h
    · exact h
  refine ⟨h2, fun d hd => ?_⟩
  obtain ⟨e, he⟩ := hd
  rcases Nat.lt_or_ge d 2 with h | hd2
  · have : d ≠ 0 := by rintro rfl; rw [Nat.zero_mul] at he; omega
    left; omega
  rcases Nat.lt_or_ge d (s + 2) with h | h
  · have := key d hd2 h ⟨e, he⟩
    have := Nat.le_of_dvd (by omega) (show d ∣ p from ⟨e, he⟩)
    right; omega
  · have hes : e < s + 2 := by
      rcases Nat.lt_or_ge e (s + 2) with h' | h'
      · exact h'
      · have := Nat.mul_le_mul h h'; omega
    rcases Nat.lt_or_ge e 2 with h' | h'
    · have : e ≠ 0 := by rintro rfl; rw [Nat.mul_zero] at he; omega
      have : e = 1 := by omega
      subst this; right; omega
    · have := key e h' hes ⟨d, by rw [he, Nat.mul_comm]⟩
      have h3 : d * e ≥ 2 * e := Nat.mul_le_mul_right e hd2
      omega
theorem prime_7 : PrimeN 7 := primeB_sound (s := 2) (by decide +kernel)
theorem prime_2 : PrimeN 2 := primeB_sound (s := 0) (by decide +kernel)
theorem prime_3 : PrimeN 3 := primeB_sound (s := 0) (by decide +kernel)
theorem prime_5 : PrimeN 5 := primeB_sound (s := 1) (by decide +kernel)
theorem prime_11 : PrimeN 11 := primeB_sound (s := 2) (by decide +kernel)
theorem prime_13 : PrimeN 13 := primeB_sound (s := 2) (by decide +kernel)
theorem prime_23 : PrimeN 23 := primeB_sound (s := 3) (by decide +kernel)
theorem prime_101 : PrimeN 101 := primeB_sound (s := 9) (by decide +kernel)
theorem prime_257 : PrimeN 257 := primeB_sound (s := 15) (by decide +kernel)
theorem prime_65537 : PrimeN 65537 := primeB_sound (s := 255) (by decide +kernel)
theorem prime_1000003 : PrimeN 1000003 := primeB_sound (s := 1000) (by decide +kernel)
theorem prime_500000003 : PrimeN 500000003 := primeB_sound (s := 22360) (by decide +kernel)
end Go.Proofs.YtlhipgejiacklaaDoor
namespace Go.Proofs.YtlhipgejiacklaaDoor
open Go.RowKit

set_option maxHeartbeats 400000 in
theorem modulo_any (p n : Int) (w : World) (hp : p ≤ 4611686018427387904) :
    Calls Tryd.prog 109 #[.int .i64 p, .int .i64 n] w (Ret (.int .i64 (modI n p)) w) := by
  by_cases h : p < 1
  · go_enter Tryd.func109, Tryd.ntmps109
    go_wp2
    go_ret
    exact Ret.int (modI_lt n p h).symm
  · have h1 := Int.tmod_lt_of_pos n (b := p) (by omega)
    have h2 := Int.lt_tmod_of_pos n (b := p) (by omega)
    have HE := Lib.hid (modI_tmod n p h)
    by_cases h0 : n.tmod p < 0
    · have HR := Lib.hid (show n.tmod p + p = modI n p by
        rw [← HE.out, ← Int.add_emod_right, Int.emod_eq_of_lt (by omega) (by omega)])
      go_enter Tryd.func109, Tryd.ntmps109
      go_wp2
      go_ret
      exact Ret.int HR.out
    · have HR := Lib.hid (show n.tmod p = modI n p by
        rw [← HE.out, Int.emod_eq_of_lt (by omega) (by omega)])
      go_enter Tryd.func109, Tryd.ntmps109
      go_wp2
      go_ret
      exact Ret.int HR.out

set_option maxHeartbeats 400000 in
theorem element_any (p n : Int) (w : World) (hp : p ≤ 4611686018427387904) :
    Calls Tryd.prog 106 #[.int .i64 p, .int .i64 n] w (Ret (.int .i64 (modI n p)) w) := by
  go_enter Tryd.func106, Tryd.ntmps106
  go_wp2_with fail
  refine (modulo_any p n _ hp).mono ?_
  rintro e w1 ⟨rfl, rfl⟩
  go_wp2
  go_ret
  exact Ret.int rfl
set_option maxHeartbeats 400000 in
theorem add_any (p a b : Int) (w : World) (hp : p ≤ 4611686018427387904) (h : -9223372036854775808 ≤ a + b ∧ a + b ≤ 9223372036854775807) :
    Calls Tryd.prog 96 #[.int .i64 p, .int .i64 a, .int .i64 b] w (Ret (.int .i64 (modI (a + b) p)) w) := by
  obtain ⟨h1, h2⟩ := h
  go_enter Tryd.func96, Tryd.ntmps96
  go_wp2_with fail
  refine (modulo_any p (a + b) _ hp).mono ?_
  rintro e w1 ⟨rfl, rfl⟩
  go_wp2
  go_ret
  exact Ret.int rfl
set_option maxHeartbeats 400000 in
theorem sub_any (p a b : Int) (w : World) (hp : p ≤ 4611686018427387904) (h : -9223372036854775808 ≤ a - b ∧ a - b ≤ 9223372036854775807) :
    Calls Tryd.prog 107 #[.int .i64 p, .int .i64 a, .int .i64 b] w (Ret (.int .i64 (modI (a - b) p)) w) := by
  obtain ⟨h1, h2⟩ := h
  go_enter Tryd.func107, Tryd.ntmps107
  go_wp2_with fail
  refine (modulo_any p (a - b) _ hp).mono ?_
  rintro e w1 ⟨rfl, rfl⟩
  go_wp2
  go_ret
  exact Ret.int rfl
set_option maxHeartbeats 400000 in
theorem mul_any (p a b : Int) (w : World) (hp : p ≤ 4611686018427387904) (h : -9223372036854775808 ≤ a * b ∧ a * b ≤ 9223372036854775807) :
    Calls Tryd.prog 98 #[.int .i64 p, .int .i64 a, .int .i64 b] w (Ret (.int .i64 (modI (a * b) p)) w) := by
  obtain ⟨h1, h2⟩ := h
  go_enter Tryd.func98, Tryd.ntmps98
  go_wp2_with fail
  refine (modulo_any p (a * b) _ hp).mono ?_
  rintro e w1 ⟨rfl, rfl⟩
  go_wp2
  go_ret
  exact Ret.int rfl

/-! ### Elements as natural numbers -/
theorem modI_nat (n p : Nat) (hp : 1 ≤ p) : modI (n : Int) (p : Int) = ((n % p : Nat) : Int) := by
  rw [modI_ge _ _ (by omega)]; rfl
def fadd (p a b : Nat) : Nat := (a + b) % p
def fsub (p a b : Nat) : Nat := (a + (p - b)) % p
def fmul (p a b : Nat) : Nat := a * b % p
def fpow (p a n : Nat) : Nat := a ^ n % p
def fone (p : Nat) : Nat := 1 % p
theorem fadd_lt {p : Nat} (hp : 1 ≤ p) (a b : Nat) : fadd p a b < p := Nat.mod_lt _ hp
theorem fsub_lt {p : Nat} (hp : 1 ≤ p) (a b : Nat) : fsub p a b < p := Nat.mod_lt _ hp
theorem fmul_lt {p : Nat} (hp : 1 ≤ p) (a b : Nat) : fmul p a b < p := Nat.mod_lt _ hp
theorem fpow_lt {p : Nat} (hp : 1 ≤ p) (a n : Nat) : fpow p a n < p := Nat.mod_lt _ hp
theorem fone_lt {p : Nat} (hp : 1 ≤ p) : fone p < p := Nat.mod_lt _ hp
theorem mulN_bound {a b p : Nat} (ha : a < p) (hb : b < p) (hp : p ≤ 2147483648) : a * b ≤ 4611686018427387904 := by
  have := Nat.mul_le_mul (Nat.le_trans (Nat.le_of_lt ha) hp) (Nat.le_trans (Nat.le_of_lt hb) hp); omega
theorem mul_nat (p a b : Nat) (w : World) (hp : 1 ≤ p) (hp2 : p ≤ 2147483648) (ha : a < p) (hb : b < p) :
    Calls Tryd.prog 98 #[.int .i64 p, .int .i64 a, .int .i64 b] w (Ret (.int .i64 (fmul p a b : Nat)) w) := by
  have h := mul_any p a b w (by omega) (by have := mulN_bound ha hb hp2; rw [← Int.natCast_mul]; omega)
  rw [← Int.natCast_mul, modI_nat _ _ hp] at h
  exact h

theorem pow_mod_mul (p o x k : Nat) : o * (x * x % p) ^ k % p = o * x ^ (2 * k) % p := by
  rw [Nat.mul_mod, Nat.pow_mod, Nat.mod_mod, ← Nat.pow_mod, ← Nat.mul_mod, Nat.pow_mul, Nat.pow_two]
theorem pow_even (p o x n : Nat) (h : ¬ n % 2 = 1) : o * (x * x % p) ^ (n / 2) % p = o * x ^ n % p := by
  rw [pow_mod_mul, show 2 * (n / 2) = n by omega]
theorem pow_odd (p o x n : Nat) (h : n % 2 = 1) : o * x % p * (x * x % p) ^ (n / 2) % p = o * x ^ n % p := by
  rw [pow_mod_mul, Nat.mul_mod, Nat.mod_mod, ← Nat.mul_mod, Nat.mul_assoc, Nat.mul_comm x, ← Nat.pow_succ, show (2 * (n / 2)).succ = n by omega]

set_option maxHeartbeats 400000 in
theorem fpower_any (p a N : Nat) (w : World) (hp : 1 ≤ p) (hp2 : p ≤ 2147483648) (ha : a < p) (hN : N < 18446744073709551616) :
    Calls Tryd.prog 111 #[.int .i64 p, .int .i64 a, .int .u64 N] w (Ret (.int .i64 (fpow p a N : Nat)) w) := by
  have h1p : (1 : Int) ≤ p := by omega
  go_enter Tryd.func111, Tryd.ntmps111
  go_wp2_with fail
  refine (modulo_any p 1 _ (by omega)).mono ?_
  rintro e w1 ⟨rfl, rfl⟩
  rw [show modI 1 (p : Int) = (fone p : Nat) from modI_nat 1 p hp]
  go_wp2_with fail
  go_loop [1, 2, 7] (fun x n o => ∃ x' n' o' : Nat, x = .int .i64 x' ∧ n = .int .u64 n' ∧ o = .int .i64 o' ∧ x' < p ∧ o' < p ∧ n' < 18446744073709551616 ∧ o' * x' ^ n' % p = fpow p a N) (fun _ n _ => (intOf n).toNat)
  case atStart => exact ⟨a, N, fone p, rfl, rfl, rfl, ha, fone_lt hp, hN, by unfold fone fpow; rw [Nat.mul_mod, Nat.mod_mod, ← Nat.mul_mod, Nat.one_mul]⟩
  case round =>
    obtain ⟨x, n, o, rfl, rfl, rfl, hx, ho, hn, hinv⟩ := hrel
    have HI := Lib.hid hinv
    clear hinv
    by_cases hn0 : 0 < n
    · have hbit := and_one_u64 (n : Int) (by omega) (by omega)
      by_cases hodd : n % 2 = 1
      · have hb : (bits BinOp.and IntKind.u64 (n : Int) 1 == 1) = true := by rw [hbit]; simp; omega
        clear hbit
        go_wp2_with fail
        refine ret_pure (mul_nat p o x _ hp hp2 ho hx) ?_
        go_wp2_with fail
        refine ret_pure (mul_nat p x x _ hp hp2 hx hx) ?_
        go_wp2_with fail
        go_round
        case rel =>
          refine ⟨fmul p x x, n / 2, fmul p o x, rfl, by go_num, rfl, fmul_lt hp _ _, fmul_lt hp _ _, by omega, ?_⟩
          rw [← HI.out]; exact pow_odd p o x n hodd
        case measure => simp [intOf]; omega
      · have hb : (bits BinOp.and IntKind.u64 (n : Int) 1 == 1) = false := by rw [hbit]; simp; omega
        clear hbit
        go_wp2_with fail
        refine ret_pure (mul_nat p x x _ hp hp2 hx hx) ?_
        go_wp2_with fail
        go_round
        case rel =>
          refine ⟨fmul p x x, n / 2, o, rfl, by go_num, rfl, fmul_lt hp _ _, ho, by omega, ?_⟩
          rw [← HI.out]; exact pow_even p o x n hodd
        case measure => simp [intOf]; omega
    · go_wp2_with fail
      go_ret
      refine Ret.int ?_
      have := HI.out
      rw [show n = 0 by omega, Nat.pow_zero, Nat.mul_one, Nat.mod_eq_of_lt ho] at this
      rw [this]

theorem add_nat (p a b : Nat) (w : World) (hp : 1 ≤ p) (hp2 : p ≤ 2147483648) (ha : a < p) (hb : b < p) :
    Calls Tryd.prog 96 #[.int .i64 p, .int .i64 a, .int .i64 b] w (Ret (.int .i64 (fadd p a b : Nat)) w) := by
  have h := add_any p a b w (by omega) (by omega)
  rw [← Int.natCast_add, modI_nat _ _ hp] at h
  exact h
theorem sub_nat (p a b : Nat) (w : World) (hp : 1 ≤ p) (hp2 : p ≤ 2147483648) (ha : a < p) (hb : b < p) :
    Calls Tryd.prog 107 #[.int .i64 p, .int .i64 a, .int .i64 b] w (Ret (.int .i64 (fsub p a b : Nat)) w) := by
  have h := sub_any p a b w (by omega) (by omega)
  have e : modI ((a : Int) - b) p = (fsub p a b : Nat) := by
    rw [modI_ge _ _ (by omega), ← Int.add_emod_right, show (a : Int) - b + p = ((a + (p - b) : Nat) : Int) by omega]; rfl
  rw [e] at h
  exact h
theorem element_nat (p n : Nat) (w : World) (hp : 1 ≤ p) (hp2 : p ≤ 2147483648) :
    Calls Tryd.prog 106 #[.int .i64 p, .int .i64 n] w (Ret (.int .i64 (n % p : Nat)) w) := by
  have h := element_any p n w (by omega)
  rw [modI_nat _ _ hp] at h
  exact h
end Go.Proofs.YtlhipgejiacklaaDoor
namespace Go.Proofs.YtlhipgejiacklaaDoor
open Go.RowKit

def finv (p a : Nat) : Nat := fpow p a (p - 2)
def invE (a : Nat) : Int := if a = 0 then 7 else 0
def invV (p a : Nat) : Nat := if a = 0 then 0 else finv p a
theorem inv_zero (p a : Nat) (h : a = 0) : invV p a = 0 ∧ invE a = 7 := by simp [invV, invE, h]
theorem inv_pos (p a : Nat) (h : ¬ a = 0) : invV p a = finv p a ∧ invE a = 0 := by simp [invV, invE, h]
theorem pair_nat {x y : Nat} {a b : Int} (h : x = y ∧ b = a) : Value.tuple #[.int .i64 (y : Int), .int .i64 a] = Value.tuple #[.int .i64 (x : Int), .int .i64 b] := by rw [h.1, h.2]
set_option maxHeartbeats 400000 in
theorem inverse_any (p a : Nat) (w : World) (hp : 2 ≤ p) (hp2 : p ≤ 2147483648) (ha : a < p) :
    Calls Tryd.prog 108 #[.int .i64 p, .int .i64 a] w (Ret (.tuple #[.int .i64 (invV p a : Nat), .int .i64 (invE a)]) w) := by
  by_cases h : a = 0
  · have HV := Lib.hid (inv_zero p a h)
    have t1 : ((a : Int) == 0) = true := by simp; omega
    have HA := Lib.hid h
    clear h
    go_enter Tryd.func108, Tryd.ntmps108
    go_wp2
    go_ret2
    exact Ret.val (pair_nat (x := invV p a) (y := 0) HV.out)
  · have HV := Lib.hid (inv_pos p a h)
    have t1 : ((a : Int) == 0) = false := by simp; omega
    have e1 : (p : Int) - 2 = ((p - 2 : Nat) : Int) := by omega
    have HE := Lib.hid e1
    clear h e1
    go_enter Tryd.func108, Tryd.ntmps108
    go_wp2_with fail
    rw [HE.out]
    refine ret_pure (fpower_any p a (p - 2) _ (by omega) (by omega) ha (by omega)) ?_
    rw [show fpow p a (p - 2) = finv p a from rfl]
    go_wp2_with fail
    go_ret2
    exact Ret.val (pair_nat (x := invV p a) (y := finv p a) HV.out)
/-- Powers with a whole exponent. -/
def powV (p a : Nat) (n : Int) : Nat := if 0 ≤ n then fpow p a n.toNat else if a = 0 then 0 else fpow p (finv p a) (-n).toNat
theorem powV_pos (p a : Nat) (n : Nat) : fpow p a n = powV p a (n : Int) := by unfold powV; rw [if_pos (by omega), Int.toNat_natCast]
theorem powV_zero (p a : Nat) (n : Int) (h : ¬ 0 ≤ n) (ha : a = 0) : 0 = powV p a n := by unfold powV; rw [if_neg h, if_pos ha]
theorem powV_neg (p a : Nat) (n : Int) (h : ¬ 0 ≤ n) (ha : ¬ a = 0) : fpow p (finv p a) (-n).toNat = powV p a n := by unfold powV; rw [if_neg h, if_neg ha]
def primesL : List Int := [7, 2, 3, 5, 11, 13, 23, 101, 257, 65537, 1000003, 500000003]
def PrimeP (D : Nat) (R : List Int) (w : World) (e : Ending) (w' : World) : Prop :=
  ∃ p : Nat, e = .returned (.int .i64 p) ∧ PrimeN p ∧ p ≤ 500000003 ∧ ((p : Int) = nth primesL (nextV R 12).toNat) ∧ DiceAt w' D R.tail ∧ w.grownBy w' (some D)
theorem primes_ok (k : Nat) (h : k < 12) : ∃ p : Nat, (p : Int) = nth primesL k ∧ PrimeN p ∧ p ≤ 500000003 := by
  have : k = 0 ∨ k = 1 ∨ k = 2 ∨ k = 3 ∨ k = 4 ∨ k = 5 ∨ k = 6 ∨ k = 7 ∨ k = 8 ∨ k = 9 ∨ k = 10 ∨ k = 11 := by omega
  rcases this with rfl | rfl | rfl | rfl | rfl | rfl | rfl | rfl | rfl | rfl | rfl | rfl
  · exact ⟨7, rfl, prime_7, by omega⟩
  · exact ⟨2, rfl, prime_2, by omega⟩
  · exact ⟨3, rfl, prime_3, by omega⟩
  · exact ⟨5, rfl, prime_5, by omega⟩
  · exact ⟨11, rfl, prime_11, by omega⟩
  · exact ⟨13, rfl, prime_13, by omega⟩
  · exact ⟨23, rfl, prime_23, by omega⟩
  · exact ⟨101, rfl, prime_101, by omega⟩
  · exact ⟨257, rfl, prime_257, by omega⟩
  · exact ⟨65537, rfl, prime_65537, by omega⟩
  · exact ⟨1000003, rfl, prime_1000003, by omega⟩
  · exact ⟨500000003, rfl, prime_500000003, by omega⟩
set_option maxHeartbeats 400000 in
theorem prime_any (D : Nat) (R : List Int) (w : World) (h : DiceAt w D R) :
    Calls Tryd.prog 17 #[.pointer (some ⟨D, 0, none⟩)] w (PrimeP D R w) := by
  have hlt := h.lt
  go_enter Tryd.func17, Tryd.ntmps17
  go_wp2_with fail
  refine (next_any D R 12 _ (h.alloc _) (by omega)).mono ?_
  rintro e w1 ⟨rfl, hD1, hg⟩
  obtain ⟨x1, x2⟩ := nextV_range R 12 (by omega)
  have hI := (lit_ints w primesL).grown hg (fun b off e => by injection e with e; injection e with e1; omega)
  have HH := Lib.hid (And.intro hD1 (grown_trans (grown_of_below (r := some D) (below_alloc w _)) hg))
  clear hD1 hg h
  generalize hv : nextV R 12 = v at *
  have HV := Lib.hid hv
  obtain ⟨k, rfl⟩ := Int.eq_ofNat_of_zero_le x1
  have hk : k < primesL.length := by simp [primesL]; omega
  obtain ⟨p, hp, hpp, hp5⟩ := primes_ok k (by omega)
  have HP := Lib.hid hp
  have HPP := Lib.hid hpp
  obtain ⟨b, off, e, hbl, hcell⟩ := hI k hk
  injection e with e
  injection e with e1 e2
  subst e1; subst e2
  rw [Nat.zero_add, ← hp] at hcell
  clear hv hI hp hpp hk
  go_wp2_with fail
  go_ret
  exact ⟨p, rfl, HPP.out, hp5, by rw [HV.out, Int.toNat_natCast]; exact HP.out, HH.out⟩
theorem not_dvd_elem {p x : Nat} (hx : x < p) (h0 : ¬ x = 0) : ¬ p ∣ x := fun h => by have := Nat.le_of_dvd (by omega) h; omega
set_option maxHeartbeats 400000 in
theorem refSub_nat (p a b : Nat) (w : World) (hp : 1 ≤ p) (hp2 : p ≤ 2147483648) (ha : a < p) (hb : b < p) :
    Calls Tryd.prog 100 #[.int .i64 p, .int .i64 a, .int .i64 b] w (Ret (.int .i64 (fsub p a b : Nat)) w) := by
  have h3 : ¬ (p : Int) = 0 := by omega
  have h4 : ((p : Int) == 0) = false := by simp; omega
  have e1 : IntKind.i64.wrap ((a : Int) - b) = (a : Int) - b := IntWalk.i64_in _ (by omega)
  have e3 : IntKind.i64.wrap ((a : Int) - b + p) = (a : Int) - b + p := IntWalk.i64_in _ (by omega)
  have e2 : ((a : Int) - b + p).tmod p = (fsub p a b : Nat) := by
    rw [Int.tmod_eq_emod_of_nonneg (by omega), show (a : Int) - b + p = ((a + (p - b) : Nat) : Int) by omega]; rfl
  have hl := fsub_lt hp a b
  go_enter Tryd.func100, Tryd.ntmps100
  go_wp2
  go_ret
  exact Ret.int rfl
/-- The exponent that the document's power reduces to. -/
def redE (p : Nat) (n : Int) : Nat := (n % ((p - 1 : Nat) : Int)).toNat
theorem pow_red {p x : Nat} (hp : PrimeN p) (hx : x < p) (h0 : ¬ x = 0) (n : Int) : fpow p x (redE p n) = powV p x n := by
  have h2 := hp.1
  have hper : ∀ j k : Nat, fpow p x ((p - 1) * j + k) = fpow p x k := fun j k => by
    have h1 : x ^ (p - 1) % p = 1 := flt hp (not_dvd_elem hx h0)
    unfold fpow
    rw [Nat.pow_add, Nat.pow_mul, Nat.mul_mod, Nat.pow_mod, h1, Nat.one_pow, Nat.mod_eq_of_lt (show 1 < p by omega), Nat.one_mul, Nat.mod_mod]
  by_cases hn : 0 ≤ n
  · obtain ⟨n, rfl⟩ := Int.eq_ofNat_of_zero_le hn
    rw [← powV_pos]
    have : redE p (n : Int) = n % (p - 1) := by unfold redE; rw [← Int.natCast_emod, Int.toNat_natCast]
    rw [this]
    conv => rhs; rw [← Nat.div_add_mod n (p - 1)]
    exact (hper _ _).symm
  · rw [← powV_neg p x n hn h0]
    obtain ⟨m, hm⟩ : ∃ m : Nat, n = -(m : Int) := ⟨(-n).toNat, by omega⟩
    subst hm
    rw [show (-(-(m : Int))).toNat = m by omega]
    -- x^(p-2)^m
    have e1 : fpow p (finv p x) m = fpow p x ((p - 2) * m) := by
      unfold fpow finv fpow; rw [← Nat.pow_mod, Nat.pow_mul]
    rw [e1]
    have hq : ∃ j : Nat, (p - 2) * m = (p - 1) * j + redE p (-(m : Int)) := by
      have hr := Int.emod_nonneg (-(m : Int)) (b := ((p - 1 : Nat) : Int)) (by omega)
      have hd := Int.emod_add_mul_ediv (-(m : Int)) ((p - 1 : Nat) : Int)
      have hz : (((p - 2) * m : Nat) : Int) = ((p - 1 : Nat) : Int) * m + -(m : Int) := by
        rw [Int.natCast_mul, show ((p - 2 : Nat) : Int) = ((p - 1 : Nat) : Int) - 1 by omega, Int.sub_mul]; omega
      have hz2 : (((p - 2) * m : Nat) : Int) = ((p - 1 : Nat) : Int) * ((m : Int) + -(m : Int) / ((p - 1 : Nat) : Int)) + (redE p (-(m : Int)) : Nat) := by
        rw [hz, Int.mul_add]; unfold redE; rw [Int.toNat_of_nonneg hr]; omega
      have hjn : 0 ≤ (m : Int) + -(m : Int) / ((p - 1 : Nat) : Int) := by
        have : -(m : Int) ≤ -(m : Int) / ((p - 1 : Nat) : Int) := by
          rw [Int.le_ediv_iff_mul_le (by omega)]
          have : (m : Int) * 1 ≤ (m : Int) * ((p - 1 : Nat) : Int) := Int.mul_le_mul_of_nonneg_left (by omega) (by omega)
          rw [Int.neg_mul]; omega
        omega
      obtain ⟨j, hj⟩ := Int.eq_ofNat_of_zero_le hjn
      refine ⟨j, ?_⟩
      rw [hj] at hz2
      have : (((p - 2) * m : Nat) : Int) = (((p - 1) * j + redE p (-(m : Int)) : Nat) : Int) := by rw [hz2]; push_cast; rfl
      omega
    obtain ⟨j, hj⟩ := hq
    rw [hj, hper]
theorem redE_eq (p : Nat) (n : Int) (hp : 2 ≤ p) : (n.tmod ((p : Int) - 1) + p - 1) % ((p : Int) - 1) = (redE p n : Nat) := by
  have h := modI_tmod n ((p : Int) - 1) (by omega)
  rw [modI_ge _ _ (by omega)] at h
  have e : ((p - 1 : Nat) : Int) = (p : Int) - 1 := by omega
  have hr := Int.emod_nonneg n (b := (p : Int) - 1) (by omega)
  unfold redE
  rw [e, Int.toNat_of_nonneg hr, Int.add_sub_assoc, Int.add_emod_right, h]
theorem redE_lt (p : Nat) (n : Int) (hp : 2 ≤ p) : redE p n < p := by
  have h1 := Int.emod_lt_of_pos n (b := ((p - 1 : Nat) : Int)) (by omega)
  unfold redE; omega
theorem and_one_i64 (E : Int) (h0 : 0 ≤ E) (h1 : E ≤ 9223372036854775807) : bits BinOp.and IntKind.i64 E 1 = E % 2 := by
  have h := and_one_u64 E h0 (by omega)
  have key : bits BinOp.and IntKind.i64 E 1 = if (true && decide (bits BinOp.and IntKind.u64 E 1 ≥ 2 ^ 63)) = true then bits BinOp.and IntKind.u64 E 1 - 2 ^ 64 else bits BinOp.and IntKind.u64 E 1 := rfl
  rw [key, h, if_neg]
  simp
  omega
set_option maxHeartbeats 400000 in
theorem refPow_nz (p a : Nat) (n : Int) (w : World) (hp : PrimeN p) (hp2 : p ≤ 2147483648) (ha : a < p) (h0 : ¬ a = 0) (hn0 : ¬ n = 0) (_ : -9223372036854775808 ≤ n) (_ : n ≤ 9223372036854775807) :
    Calls Tryd.prog 110 #[.int .i64 p, .int .i64 a, .int .i64 n] w (Ret (.int .i64 (powV p a n : Nat)) w) := by
  have h2 := hp.1
  have HV := Lib.hid (pow_red hp ha h0 n)
  have HE := Lib.hid (redE_eq p n h2)
  have hel := redE_lt p n h2
  have h1 := Int.tmod_lt_of_pos n (b := (p : Int) - 1) (by omega)
  have h3 := Int.lt_tmod_of_pos n (b := (p : Int) - 1) (by omega)
  have t0 : (n == 0) = false := by simp; omega
  have t1 : ((a : Int) == 0) = false := by simp; omega
  have t2 : ((p : Int) == 0) = false := by simp; omega
  have t3 : ¬ (p : Int) = 0 := by omega
  have t4 : ((p : Int) - 1 == 0) = false := by simp; omega
  have t5 : ¬ (p : Int) - 1 = 0 := by omega
  have e0 : (1 : Int) % (p : Int) = (fone p : Nat) := rfl
  have hf1 := fone_lt (show 1 ≤ p by omega)
  clear hp hn0 h0
  generalize redE p n = E at *
  go_enter Tryd.func110, Tryd.ntmps110
  go_wp2_with fail
  rw [HE.out]
  go_loop [1, 7, 8] (fun x n o => ∃ x' n' o' : Nat, x = .int .i64 x' ∧ n = .int .i64 n' ∧ o = .int .i64 o' ∧ x' < p ∧ o' < p ∧ n' < 2147483648 ∧ o' * x' ^ n' % p = fpow p a E) (fun _ n _ => (intOf n).toNat)
  case atStart => exact ⟨a, E, fone p, rfl, rfl, rfl, ha, by omega, by omega, by unfold fone fpow; rw [Nat.mul_mod, Nat.mod_mod, ← Nat.mul_mod, Nat.one_mul]⟩
  case round =>
    obtain ⟨x, n', o, rfl, rfl, rfl, hx, ho, hn', hinv⟩ := hrel
    have HI := Lib.hid hinv
    clear hinv
    by_cases hn0 : 0 < n'
    · have hbit := and_one_i64 (n' : Int) (by omega) (by omega)
      have m1 := mulN_bound hx hx hp2
      have x1 : (x : Int) * x = (x * x : Nat) := by push_cast; rfl
      have w1 : IntKind.i64.wrap ((x : Int) * x) = (x : Int) * x := IntWalk.i64_in _ (by omega)
      have r1 : ((x : Int) * x).tmod p = (fmul p x x : Nat) := by rw [x1, Int.tmod_eq_emod_of_nonneg (by omega)]; rfl
      have l1 := fmul_lt (show 1 ≤ p by omega) x x
      clear x1
      by_cases hodd : n' % 2 = 1
      · have hb : (bits BinOp.and IntKind.i64 (n' : Int) 1 == 1) = true := by rw [hbit]; simp; omega
        have m2 := mulN_bound ho hx hp2
        have x2 : (o : Int) * x = (o * x : Nat) := by push_cast; rfl
        have w2 : IntKind.i64.wrap ((o : Int) * x) = (o : Int) * x := IntWalk.i64_in _ (by omega)
        have r2 : ((o : Int) * x).tmod p = (fmul p o x : Nat) := by rw [x2, Int.tmod_eq_emod_of_nonneg (by omega)]; rfl
        have l2 := fmul_lt (show 1 ≤ p by omega) o x
        clear hbit x2
        go_wp2_with fail
        go_round
        case rel =>
          refine ⟨fmul p x x, n' / 2, fmul p o x, rfl, by go_num, rfl, fmul_lt (by omega) _ _, fmul_lt (by omega) _ _, by omega, ?_⟩
          rw [← HI.out]; exact pow_odd p o x n' hodd
        case measure => simp [intOf]; omega
      · have hb : (bits BinOp.and IntKind.i64 (n' : Int) 1 == 1) = false := by rw [hbit]; simp; omega
        clear hbit
        go_wp2_with fail
        go_round
        case rel =>
          refine ⟨fmul p x x, n' / 2, o, rfl, by go_num, rfl, fmul_lt (by omega) _ _, ho, by omega, ?_⟩
          rw [← HI.out]; exact pow_even p o x n' hodd
        case measure => simp [intOf]; omega
    · go_wp2_with fail
      go_ret
      refine Ret.int ?_
      have := HI.out
      rw [show n' = 0 by omega, Nat.pow_zero, Nat.mul_one, Nat.mod_eq_of_lt ho] at this
      rw [this, HV.out]
theorem powV_0_0 (p a : Nat) : powV p a 0 = fone p := (powV_pos p a 0).symm
theorem powV_0 (p : Nat) (n : Int) (h : ¬ n = 0) : powV p 0 n = 0 := by
  unfold powV
  split
  · unfold fpow; rw [Nat.zero_pow (by omega), Nat.zero_mod]
  · rfl
set_option maxHeartbeats 400000 in
theorem refPow_any (p a : Nat) (n : Int) (w : World) (hp : PrimeN p) (hp2 : p ≤ 2147483648) (ha : a < p) (hn : -9223372036854775808 ≤ n) (hn2 : n ≤ 9223372036854775807) :
    Calls Tryd.prog 110 #[.int .i64 p, .int .i64 a, .int .i64 n] w (Ret (.int .i64 (powV p a n : Nat)) w) := by
  have h2 := hp.1
  have t3 : ¬ (p : Int) = 0 := by omega
  have t2 : ((p : Int) == 0) = false := by simp; omega
  by_cases h0 : n = 0
  · subst h0
    have e0 : (1 : Int) % (p : Int) = (fone p : Nat) := rfl
    have HV := Lib.hid (powV_0_0 p a)
    have hf1 := fone_lt (show 1 ≤ p by omega)
    go_enter Tryd.func110, Tryd.ntmps110
    go_wp2
    go_ret
    exact Ret.int (by rw [HV.out]; rfl)
  · by_cases ha0 : a = 0
    · subst ha0
      have HV := Lib.hid (powV_0 p n h0)
      have t0 : (n == 0) = false := by simp; omega
      clear h0
      go_enter Tryd.func110, Tryd.ntmps110
      go_wp2
      go_ret
      exact Ret.int (by rw [HV.out]; rfl)
    · exact refPow_nz p a n w hp hp2 ha ha0 h0 hn hn2
set_option maxHeartbeats 400000 in
theorem refInverse_any (p a : Nat) (w : World) (hp : PrimeN p) (hp2 : p ≤ 2147483648) (ha : a < p) :
    Calls Tryd.prog 101 #[.int .i64 p, .int .i64 a] w (Ret (.tuple #[.int .i64 (invV p a : Nat), .int .i64 (invE a)]) w) := by
  have h2 := hp.1
  by_cases h : a = 0
  · have HV := Lib.hid (inv_zero p a h)
    have t1 : ((a : Int) == 0) = true := by simp; omega
    have HA := Lib.hid h
    clear h hp
    go_enter Tryd.func101, Tryd.ntmps101
    go_wp2
    go_ret2
    exact Ret.val (pair_nat (x := invV p a) (y := 0) HV.out)
  · have HV := Lib.hid (inv_pos p a h)
    have t1 : ((a : Int) == 0) = false := by simp; omega
    have HE := Lib.hid (show (p : Int) - 2 = ((p - 2 : Nat) : Int) by omega)
    have HP := Lib.hid hp
    have HF := Lib.hid (show powV p a ((p - 2 : Nat) : Int) = finv p a from (powV_pos p a (p - 2)).symm)
    clear h hp
    go_enter Tryd.func101, Tryd.ntmps101
    go_wp2_with fail
    rw [HE.out]
    refine ret_pure (refPow_any p a ((p - 2 : Nat) : Int) _ HP.out hp2 ha (by omega) (by omega)) ?_
    rw [HF.out]
    go_wp2_with fail
    go_ret2
    exact Ret.val (pair_nat (x := invV p a) (y := finv p a) HV.out)
end Go.Proofs.YtlhipgejiacklaaDoor
namespace Go.Proofs.YtlhipgejiacklaaDoor
open Go.RowKit

def nthN (L : List Nat) (k : Nat) : Nat := L.getD k 0
theorem nthN_eq {L : List Nat} {k : Nat} (h : k < L.length) : nthN L k = L[k] := by simp [nthN, List.getD_eq_getElem?_getD, h]
theorem nthN_ge {L : List Nat} {k : Nat} (h : L.length ≤ k) : nthN L k = 0 := by simp [nthN, List.getD_eq_getElem?_getD, h]
theorem nthN_mem {L : List Nat} {k : Nat} (h : k < L.length) : nthN L k ∈ L := by rw [nthN_eq h]; exact List.getElem_mem h
theorem nthN_lt {L : List Nat} {p : Nat} (hp : 1 ≤ p) (h : ∀ x ∈ L, x < p) (k : Nat) : nthN L k < p := by
  rcases Nat.lt_or_ge k L.length with hk | hk
  · exact h _ (nthN_mem hk)
  · rw [nthN_ge hk]; omega
theorem extN {L M : List Nat} (hl : L.length = M.length) (h : ∀ k, k < L.length → nthN L k = nthN M k) : L = M := by
  refine List.ext_getElem hl fun k h1 h2 => ?_
  rw [← nthN_eq h1, ← nthN_eq h2]; exact h k h1
def ofN (L : List Nat) : List Int := L.map fun n : Nat => (n : Int)
theorem len_ofN (L : List Nat) : (ofN L).length = L.length := by simp [ofN]
theorem nth_ofN (L : List Nat) (k : Nat) : nth (ofN L) k = (nthN L k : Nat) := by
  simp only [nth, nthN, ofN, List.getD_eq_getElem?_getD, List.getElem?_map]
  cases L[k]? <;> rfl
theorem ofN_inj {L M : List Nat} (h : ofN L = ofN M) : L = M := by
  refine extN (by rw [← len_ofN L, h, len_ofN]) fun k _ => ?_
  have := nth_ofN L k
  rw [h, nth_ofN] at this; omega

/-- The address A leads to the numbers L. -/
def NatsAt (w : World) (A : Option Addr) (L : List Nat) : Prop :=
  ∀ k, k < L.length → ∃ b off, A = some ⟨b, off, none⟩ ∧ b < w.heap.size ∧ w.cell? ⟨b, off + k, none⟩ = some (.int .i64 (nthN L k : Nat))
theorem NatsAt.nil (w : World) (A : Option Addr) : NatsAt w A [] := fun k h => absurd h (by simp)
theorem NatsAt.below {w w' : World} {A : Option Addr} {L : List Nat} (h : NatsAt w A L) (hb : Below w.heap.size w w') : NatsAt w' A L := fun k hk => by
  obtain ⟨b, off, hA, hlt, hc⟩ := h k hk
  exact ⟨b, off, hA, Nat.lt_of_lt_of_le hlt hb.size, (hb.cell hlt).trans hc⟩
theorem NatsAt.ints {w : World} {A : Option Addr} {L : List Nat} (h : NatsAt w A L) : IntsAt w A (ofN L) := fun k hk => by
  obtain ⟨b, off, hA, hlt, hc⟩ := h k (by rw [← len_ofN]; exact hk)
  exact ⟨b, off, hA, hlt, by rw [nth_ofN]; exact hc⟩
theorem NatsAt.grown {w w' : World} {A : Option Addr} {L : List Nat} {D : Nat} (h : NatsAt w A L) (hg : w.grownBy w' (some D)) (hD : ∀ b off, A = some ⟨b, off, none⟩ → b ≠ D) : NatsAt w' A L := fun k hk => by
  obtain ⟨b, off, hA, hlt, hc⟩ := h k hk
  exact ⟨b, off, hA, Nat.lt_of_lt_of_le hlt hg.size, (grown_cell hg b _ hlt (hD b off hA)).trans hc⟩
abbrev valsN (L : List Nat) : List Value := L.map fun n : Nat => Value.int .i64 (n : Int)
theorem NatsAt.of_own {w : World} {base : Nat} {v : Value} {L : List Nat} {n : Nat} (h : w.ownsRow base 3 1 v n (valsN L)) (hn : n = L.length) :
    ∃ A c, v = .slice A L.length c ∧ NatsAt w A L ∧ ∀ b off, A = some ⟨b, off, none⟩ → base ≤ b := by
  subst hn
  have hlt := h.lt
  rcases h.2 with ⟨rfl, h0⟩ | ⟨g, cap, cur, rfl, hg, hh, hnc, hcm, hcs, htk⟩
  · have : L = [] := List.eq_nil_of_length_eq_zero h0
    subst this
    exact ⟨none, 0, rfl, NatsAt.nil _ _, fun b off e => by cases e⟩
  · refine ⟨some ⟨g, 0, none⟩, cap, rfl, fun k hk => ⟨g, 0, rfl, ?_, ?_⟩, fun b off e => by injection e with e; injection e with e1; omega⟩
    · exact (hlt g rfl).2
    · have := h.cellAt (j := k) (by omega)
      rw [Nat.zero_add, this, List.getElem?_map, nthN_eq hk, List.getElem?_eq_getElem hk]
      rfl
/-- Block g is just the numbers cs. -/
def NatBlk (w : World) (g : Nat) (cs : List Nat) : Prop := w.heap[g]? = some (.cells (valsN cs).toArray 3 (0, 0))
theorem NatBlk.lt {w : World} {g : Nat} {cs : List Nat} (h : NatBlk w g cs) : g < w.heap.size := by
  rcases Nat.lt_or_ge g w.heap.size with hlt | hge
  · exact hlt
  · unfold NatBlk at h; rw [Array.getElem?_eq_none hge] at h; cases h
theorem NatBlk.cell {w : World} {g : Nat} {cs : List Nat} (h : NatBlk w g cs) (j : Nat) (hj : j < cs.length) : w.cell? ⟨g, j, none⟩ = some (.int .i64 (nthN cs j : Nat)) := by
  rw [cell_of_row w g j _ _ (0, 0) h, nthN_eq hj]; simp [hj]
theorem NatBlk.frozen {w : World} {g : Nat} {cs : List Nat} (h : NatBlk w g cs) (j : Nat) : w.frozen? ⟨g, j, none⟩ = false := by
  unfold NatBlk at h; simp [World.frozen?, h]
theorem NatBlk.set_ {w : World} {g : Nat} {cs : List Nat} (h : NatBlk w g cs) (j x : Nat) : NatBlk (w.setCell ⟨g, j, none⟩ (.int .i64 (x : Int))) g (cs.set j x) := by
  unfold NatBlk at h ⊢
  simp [World.setCell, Array.getElem?_modify, h, List.map_set]
theorem NatBlk.below {w w' : World} {g : Nat} {cs : List Nat} (h : NatBlk w g cs) (hb : Below w.heap.size w w') : NatBlk w' g cs := (hb.block g h.lt).trans h
theorem NatBlk.nats {w : World} {g : Nat} {cs : List Nat} (h : NatBlk w g cs) : NatsAt w (some ⟨g, 0, none⟩) cs := fun k hk =>
  ⟨g, 0, rfl, h.lt, by rw [Nat.zero_add]; exact h.cell k hk⟩
theorem NatBlk.own {w : World} {g base : Nat} {cs : List Nat} (h : NatBlk w g cs) (hb : base ≤ g) (hl : cs.length ≤ maxLen) : w.ownsRow base 3 1 (.slice (some ⟨g, 0, none⟩) cs.length cs.length) cs.length (valsN cs) :=
  ⟨by simp, .inr ⟨g, cs.length, _, rfl, hb, h, Nat.le_refl _, hl, by simp, by rw [Nat.mul_one]; exact List.take_of_length_le (by simp)⟩⟩
theorem valsN_zeros (n : Nat) : (List.replicate n (0 : Int)).map (Value.int .i64) = valsN (List.replicate n 0) := by simp [valsN]
theorem make_nats {ops : Array Oper} {rest : List Oper} {o : Oper} {a : Act} {Q : Exit → Act → World → Prop} (hg : o.guard = none) (l c : Operand) (hop : o.op = Op.makeSlice 22 l c)
    {w : World} {m : Int} (n : Nat) (hl : a.eval l = .int .i64 m) (hc : a.eval c = .int .i64 m) (hm : m = (n : Int)) (hn : n ≤ 1099511627776)
    (hK : ∀ w', NatBlk w' w.heap.size (List.replicate n 0) → Below w.heap.size w w' → wpList Tryd.prog ops Q rest (a.put o.dst (.slice (some ⟨w.heap.size, 0, none⟩) n n)) w') :
    wpList Tryd.prog ops Q (o :: rest) a w := by
  refine make_ints hg l c hop n hl hc hm hn fun w' hB hb => hK w' ?_ hb
  unfold NatBlk; rw [← valsN_zeros]; exact hB
theorem nthN_set_same (cs : List Nat) (j x : Nat) (h : j < cs.length) : nthN (cs.set j x) j = x := by rw [nthN_eq (by simpa using h)]; simp
theorem nthN_set_other (cs : List Nat) (j k x : Nat) (h : j ≠ k) : nthN (cs.set j x) k = nthN cs k := by simp [nthN, List.getD_eq_getElem?_getD, h]

/-! ### field.at, field.Linear -/
set_option maxHeartbeats 400000 in
theorem at_any (A : Option Addr) (L : List Nat) (c k : Nat) (w : World) (h : NatsAt w A L) (_ : L.length ≤ 1099511627776) (_ : k ≤ 1099511627776) :
    Calls Tryd.prog 97 #[.slice A L.length c, .int .i64 k] w (Ret (.int .i64 (nthN L k : Nat)) w) := by
  by_cases hlt : k < L.length
  · obtain ⟨b, off, rfl, _, hcell⟩ := h k hlt
    clear h
    go_enter Tryd.func97, Tryd.ntmps97
    go_wp2
    go_ret
    exact Ret.int rfl
  · have HZ := Lib.hid (nthN_ge (L := L) (k := k) (by omega))
    clear h
    go_enter Tryd.func97, Tryd.ntmps97
    go_wp2
    go_ret
    exact Ret.int (by rw [HZ.out]; rfl)

def linN (p : Nat) (A B : List Nat) (c : Nat) : List Nat := (List.range (max A.length B.length)).map fun i => fadd p (nthN A i) (fmul p c (nthN B i))
theorem linN_len (p : Nat) (A B : List Nat) (c : Nat) : (linN p A B c).length = max A.length B.length := by simp [linN]
theorem linN_nth {p : Nat} {A B : List Nat} {c i : Nat} (h : i < max A.length B.length) : nthN (linN p A B c) i = fadd p (nthN A i) (fmul p c (nthN B i)) := by
  rw [nthN_eq (by rw [linN_len]; exact h)]; simp [linN]
theorem linN_lt {p : Nat} (hp : 1 ≤ p) {A B : List Nat} {c : Nat} : ∀ x ∈ linN p A B c, x < p := by
  intro x hx
  obtain ⟨i, _, rfl⟩ := List.mem_map.1 hx
  exact fadd_lt hp _ _
/-- The call returns a new slice of just these numbers. -/
def NewNats (L : List Nat) (w : World) (e : Ending) (w' : World) : Prop :=
  ∃ g, e = .returned (.slice (some ⟨g, 0, none⟩) L.length L.length) ∧ w.heap.size ≤ g ∧ NatBlk w' g L ∧ Below w.heap.size w w'

set_option maxHeartbeats 800000 in
theorem linear_any (p : Nat) (A B : Option Addr) (L M : List Nat) (ca cb c : Nat) (w : World) (hp : 1 ≤ p) (hp2 : p ≤ 2147483648) (hA : NatsAt w A L) (hB : NatsAt w B M)
    (hL : ∀ x ∈ L, x < p) (hM : ∀ x ∈ M, x < p) (hc : c < p) (hl : L.length ≤ 1073741824) (hm : M.length ≤ 1073741824) :
    Calls Tryd.prog 77 #[.int .i64 p, .slice A L.length ca, .slice B M.length cb, .int .i64 c] w (NewNats (linN p L M c) w) := by
  have HA := Lib.hid hA
  have HB := Lib.hid hB
  have HL := Lib.hid (nthN_lt hp hL)
  have HM := Lib.hid (nthN_lt hp hM)
  clear hA hB hL hM
  obtain ⟨n, hn⟩ : ∃ n, n = max L.length M.length := ⟨_, rfl⟩
  have HN := Lib.hid hn
  have hn1 : L.length ≤ n := by omega
  have hn2 : M.length ≤ n := by omega
  have hn3 : n ≤ 1073741824 := by omega
  have HMX := Lib.hid (show max (L.length : Int) (M.length : Int) = (n : Int) by omega)
  clear hn
  go_enter Tryd.func77, Tryd.ntmps77
  go_wp2_with (at_make; refine make_nats rfl _ _ rfl n rfl rfl (by have := HN.out; omega) (by omega) ?_; intro w1 hB1 hb1)
  all_goals
    go_loopw [19] (fun i wr => ∃ (k : Nat) (cs : List Nat), k ≤ n ∧ i = .int .i64 k ∧ NatBlk wr w.heap.size cs ∧ cs.length = n ∧ (∀ j, j < k → nthN cs j = nthN (linN p L M c) j) ∧ Below w.heap.size w wr) (fun i _ => n - (intOf i).toNat)
    case atStart => exact ⟨0, _, by omega, rfl, hB1, by simp, fun j hj => absurd hj (by omega), hb1⟩
    case round =>
      obtain ⟨k, cs, hk, rfl, hBk, hcl, hcs, hbr⟩ := hrel
      have HCL := Lib.hid hcl
      have HCS := Lib.hid hcs
      clear hcl hcs
      by_cases hkn : k < n
      · have hcc := hBk.cell k (by rw [HCL.out]; exact hkn)
        have hff := hBk.frozen k
        have HV := Lib.hid (linN_nth (p := p) (A := L) (B := M) (c := c) (i := k) (by rw [← HN.out]; exact hkn))
        have HS := Lib.hid (hBk.set_ k (fadd p (nthN L k) (fmul p c (nthN M k))))
        have HBR := Lib.hid (hbr.setCell (p := ⟨w.heap.size, k, none⟩) (Nat.le_refl _) (.int .i64 ((fadd p (nthN L k) (fmul p c (nthN M k)) : Nat) : Int)))
        go_wp2_with fail
        refine ret_pure (at_any A L ca k _ (HA.out.below hbr) (by omega) (by omega)) ?_
        go_wp2_with fail
        refine ret_pure (at_any B M cb k _ (HB.out.below hbr) (by omega) (by omega)) ?_
        go_wp2_with fail
        refine ret_pure (mul_nat p c (nthN M k) _ hp hp2 hc (HM.out k)) ?_
        go_wp2_with fail
        refine ret_pure (add_nat p (nthN L k) (fmul p c (nthN M k)) _ hp hp2 (HL.out k) (fmul_lt hp _ _)) ?_
        go_wp2_with fail
        go_roundw
        case rel =>
          refine ⟨k + 1, cs.set k (fadd p (nthN L k) (fmul p c (nthN M k))), by omega, by go_num, HS.out, by rw [List.length_set]; exact HCL.out, fun j hj => ?_, HBR.out⟩
          by_cases hjk : k = j
          · subst hjk; rw [nthN_set_same _ _ _ (by rw [HCL.out]; exact hkn), HV.out]
          · rw [nthN_set_other _ _ _ _ hjk]; exact HCS.out j (by omega)
        case measure => simp [intOf]; omega
      · have HE := Lib.hid (show cs = linN p L M c from extN (by rw [HCL.out, linN_len]; exact HN.out) (fun j hj => HCS.out j (by rw [HCL.out] at hj; omega)))
        have HLN := Lib.hid (show (linN p L M c).length = n by rw [linN_len]; exact HN.out.symm)
        go_wp2_with fail
        go_ret
        refine ⟨w.heap.size, by rw [HLN.out]; rfl, Nat.le_refl _, by rw [← HE.out]; exact hBk, hbr⟩

/-! ### Lists that dice give -/
theorem grown_app {w w1 w2 : World} {D : Nat} {row : Option Nat} (h1 : w.grownBy w1 (some D)) (h2 : w1.grownBy w2 row) (hr : ∀ k, row = some k → w.heap.size ≤ k) : w.grownBy w2 (some D) :=
  ⟨h2.os.trans h1.os, h2.tape.trans h1.tape, h2.output.trans h1.output, Nat.le_trans h1.size h2.size, fun k hk hne =>
    (h2.block k (Nat.lt_of_lt_of_le hk h1.size) (fun e => by have := hr k e.symm; omega)).trans (h1.block k hk hne)⟩
/-- The call returns a new list of n elements; the dice go on. -/
def ElemsP (D n p : Nat) (w : World) (e : Ending) (w' : World) : Prop :=
  ∃ (v : Value) (L : List Nat) (R' : List Int), e = .returned v ∧ L.length = n ∧ (∀ x ∈ L, x < p) ∧ w'.ownsRow w.heap.size 3 1 v L.length (valsN L) ∧ DiceAt w' D R' ∧ w.grownBy w' (some D)

set_option maxHeartbeats 1000000 in
theorem elements_any (D : Nat) (R : List Int) (p n : Nat) (w : World) (h : DiceAt w D R) (hp : 1 ≤ p) (hp2 : p ≤ 2147483648) (hn : n ≤ 1048576) :
    Calls Tryd.prog 21 #[.pointer (some ⟨D, 0, none⟩), .int .i64 p, .int .i64 n] w (ElemsP D n p w) := by
  have hDlt := h.lt
  have hp1 : (1 : Int) ≤ p := by omega
  go_enter Tryd.func21, Tryd.ntmps21
  go_wp2_with fail
  go_loopw [7, 11] (fun l i wr => ∃ (k : Nat) (L : List Nat) (R' : List Int), k ≤ n ∧ i = .int .i64 k ∧ L.length = k ∧ (∀ x ∈ L, x < p) ∧ wr.ownsRow w.heap.size 3 1 l L.length (valsN L) ∧ DiceAt wr D R' ∧ w.grownBy wr (some D)) (fun _ i _ => n - (intOf i).toNat)
  case atStart => exact ⟨0, [], R, by omega, rfl, rfl, by simp, World.ownsRow_nil _ _ _ _, h, World.grownBy.refl _ _⟩
  case round =>
    obtain ⟨k, L, R', hk, rfl, hLk, hLp, hown, hD, hg⟩ := hrel
    have HLk := Lib.hid hLk
    have HLp := Lib.hid hLp
    have hLk1 : L.length ≤ k := by omega
    have hLk2 : k ≤ L.length := by omega
    have hgs := hg.size
    clear hLk hLp
    by_cases hlt : k < n
    · go_wp2_with fail
      refine (next_any D R' 1099511627776 _ hD (by omega)).mono ?_
      rintro e w1 ⟨rfl, hD1, hg1⟩
      obtain ⟨x1, x2⟩ := nextV_range R' 1099511627776 (by omega)
      generalize nextV R' 1099511627776 = x at *
      have hob : ∀ b, _root_.Go.Value.ownBlock _ = some b → w.heap.size ≤ b := fun b hb => (hown.lt b hb).1
      have hDw1 := hD1.lt
      have hown1 := hown.kept hg1 (.inr (fun e => by have := hob D e; omega))
      obtain ⟨A, cap, hv, hN, hAb⟩ := NatsAt.of_own hown1 rfl
      subst hv
      have hgw1 := grown_trans hg hg1
      have hz1 := hg1.size
      have hgs1 := hgw1.size
      clear hg hg1 hD hown
      have key : ∀ (y : Int), 0 ≤ y → Hid (∃ z : Nat, modI y (p : Int) = (z : Int) ∧ z < p) := fun y hy => by
        have hr := modI_range y p (by omega)
        exact ⟨(modI y p).toNat, by omega, by omega⟩
      by_cases hk0 : 0 < k
      · obtain ⟨bl, ol, rfl, hbl, hcl⟩ := hN (k - 1) (by omega)
        have hprev := nthN_lt hp HLp.out (k - 1)
        have g1 : decide (0 < (k : Int)) = true := decide_eq_true (by omega)
        by_cases hx0 : x = 0
        · subst hx0
          clear hN
          obtain ⟨z, hz, hzp⟩ := (key ((nthN L (k - 1) : Nat) * 3 + k) (by omega)).out
          have HZ := Lib.hid hz
          clear hz key
          go_wp2_with fail
          refine ret_pure (mod_any _ _ _ (by omega)) ?_
          rw [HZ.out]
          go_wp2_with (at_builtin; refine app_one rfl (.tmp 30) (.tmp 34) 22 rfl (base := w.heap.size) Tryd.underlying22 info_int rfl rfl hown1 rfl rfl (by simp only [maxLen]; omega) (by omega) hgs1 ?_; intro v4 w4 hown4 hg4 hb4)
          have HH := Lib.hid (And.intro (hD1.keep (w' := w4) (fun j hj => hg4.block j (by omega) (fun e => by have := hob _ e.symm; omega))) (grown_app hgw1 hg4 (fun j e => hob j e)))
          go_roundw
          case rel =>
            refine ⟨k + 1, L ++ [z], R'.tail, by omega, by go_num, by simp; exact HLk.out, fun y hy => ?_, ?_, HH.out.1, HH.out.2⟩
            · rcases List.mem_append.1 hy with hy | hy
              · exact HLp.out y hy
              · simp at hy; omega
            · simpa [valsN] using hown4
          case measure => simp [intOf]; omega
        · have g2 : ((x : Int) == 0) = false := by simp; omega
          clear hN hcl
          obtain ⟨z, hz, hzp⟩ := (key x x1).out
          have HZ := Lib.hid hz
          clear hz key
          go_wp2_with fail
          refine ret_pure (mod_any _ _ _ (by omega)) ?_
          rw [HZ.out]
          go_wp2_with (at_builtin; refine app_one rfl (.tmp 30) (.tmp 34) 22 rfl (base := w.heap.size) Tryd.underlying22 info_int rfl rfl hown1 rfl rfl (by simp only [maxLen]; omega) (by omega) hgs1 ?_; intro v4 w4 hown4 hg4 hb4)
          have HH := Lib.hid (And.intro (hD1.keep (w' := w4) (fun j hj => hg4.block j (by omega) (fun e => by have := hob _ e.symm; omega))) (grown_app hgw1 hg4 (fun j e => hob j e)))
          go_roundw
          case rel =>
            refine ⟨k + 1, L ++ [z], R'.tail, by omega, by go_num, by simp; exact HLk.out, fun y hy => ?_, ?_, HH.out.1, HH.out.2⟩
            · rcases List.mem_append.1 hy with hy | hy
              · exact HLp.out y hy
              · simp at hy; omega
            · simpa [valsN] using hown4
          case measure => simp [intOf]; omega
      · have g1 : decide (0 < (k : Int)) = false := decide_eq_false (by omega)
        clear hN
        obtain ⟨z, hz, hzp⟩ := (key x x1).out
        have HZ := Lib.hid hz
        clear hz key
        go_wp2_with fail
        refine ret_pure (mod_any _ _ _ (by omega)) ?_
        rw [HZ.out]
        go_wp2_with (at_builtin; refine app_one rfl (.tmp 30) (.tmp 34) 22 rfl (base := w.heap.size) Tryd.underlying22 info_int rfl rfl hown1 rfl rfl (by simp only [maxLen]; omega) (by omega) hgs1 ?_; intro v4 w4 hown4 hg4 hb4)
        have HH := Lib.hid (And.intro (hD1.keep (w' := w4) (fun j hj => hg4.block j (by omega) (fun e => by have := hob _ e.symm; omega))) (grown_app hgw1 hg4 (fun j e => hob j e)))
        go_roundw
        case rel =>
          refine ⟨k + 1, L ++ [z], R'.tail, by omega, by go_num, by simp; exact HLk.out, fun y hy => ?_, ?_, HH.out.1, HH.out.2⟩
          · rcases List.mem_append.1 hy with hy | hy
            · exact HLp.out y hy
            · simp at hy; omega
          · simpa [valsN] using hown4
        case measure => simp [intOf]; omega
    · go_wp2_with fail
      go_ret
      exact ⟨_, L, R', rfl, by have := HLk.out; omega, HLp.out, hown, hD, hg⟩
/-! ### Same -/
theorem same_nats (A A' : Option Addr) (L : List Nat) (c c' : Nat) (w : World) (hL : NatsAt w A L) (hM : NatsAt w A' L) (hl : L.length ≤ 1152921504606846976) :
    Calls Tryd.prog 29 #[.slice A L.length c, .slice A' L.length c'] w (Ret (.bool true) w) := by
  have h := same_refl A A' (ofN L) c c' w hL.ints hM.ints (by rw [len_ofN]; exact hl)
  rw [len_ofN] at h; exact h
end Go.Proofs.YtlhipgejiacklaaDoor
namespace Go.Proofs.YtlhipgejiacklaaDoor
open Go.RowKit

/-! ### ref.Linear -/
def lastN (p : Nat) (L M : List Nat) (c k : Nat) : Nat := fadd p (nthN L k) (fmul p c (nthN M k))
theorem lin_both {p : Nat} {L M : List Nat} {c k : Nat} : (nthN L k + c * nthN M k) % p = lastN p L M c k := by
  unfold lastN fadd fmul; rw [Nat.add_mod_mod]
theorem lin_left {p : Nat} (hp : 1 ≤ p) {L M : List Nat} {c k : Nat} (hL : ∀ x ∈ L, x < p) (h : M.length ≤ k) : nthN L k = lastN p L M c k := by
  unfold lastN fadd fmul; rw [nthN_ge h, Nat.mul_zero, Nat.zero_mod, Nat.add_zero, Nat.mod_eq_of_lt (nthN_lt hp hL k)]
theorem lin_right {p : Nat} {L M : List Nat} {c k : Nat} (h : L.length ≤ k) : (0 + c * nthN M k) % p = lastN p L M c k := by
  rw [← lin_both, nthN_ge h]
theorem linN_take_succ {p : Nat} {L M : List Nat} {c k : Nat} (h : k < max L.length M.length) : (linN p L M c).take (k + 1) = (linN p L M c).take k ++ [lastN p L M c k] := by
  have hk : k < (linN p L M c).length := by rw [linN_len]; exact h
  rw [List.take_succ_eq_append_getElem hk, ← nthN_eq hk, linN_nth h]; rfl

def NewList (L : List Nat) (w : World) (e : Ending) (w' : World) : Prop :=
  ∃ v, e = .returned v ∧ w'.ownsRow w.heap.size 3 1 v L.length (valsN L) ∧ Below w.heap.size w w'

set_option maxHeartbeats 1000000 in
theorem refLinear_any (p : Nat) (A B : Option Addr) (L M : List Nat) (ca cb c : Nat) (w : World) (hp : 1 ≤ p) (hp2 : p ≤ 2147483648) (hA : NatsAt w A L) (hB : NatsAt w B M)
    (hL : ∀ x ∈ L, x < p) (hM : ∀ x ∈ M, x < p) (hc : c < p) (hl : L.length ≤ 1073741824) (hm : M.length ≤ 1073741824) :
    Calls Tryd.prog 32 #[.int .i64 p, .slice A L.length ca, .slice B M.length cb, .int .i64 c] w (NewList (linN p L M c) w) := by
  have HA := Lib.hid hA
  have HB := Lib.hid hB
  have HL := Lib.hid hL
  have HM := Lib.hid hM
  clear hA hB hL hM
  obtain ⟨n, hn⟩ : ∃ n, n = max L.length M.length := ⟨_, rfl⟩
  have HN := Lib.hid hn
  have hn1 : L.length ≤ n := by omega
  have hn2 : M.length ≤ n := by omega
  have hn3 : n ≤ 1073741824 := by omega
  have t2 : ((p : Int) == 0) = false := by simp; omega
  have t3 : ¬ (p : Int) = 0 := by omega
  clear hn
  go_enter Tryd.func32, Tryd.ntmps32
  go_wp2_with fail
  all_goals
    go_loopw [9, 17] (fun l i wr => ∃ (k : Nat) (T : List Nat), k ≤ n ∧ i = .int .i64 k ∧ T = (linN p L M c).take k ∧ T.length = k ∧ wr.ownsRow w.heap.size 3 1 l T.length (valsN T) ∧ Below w.heap.size w wr) (fun _ i _ => n - (intOf i).toNat)
    case atStart => exact ⟨0, [], by omega, rfl, rfl, rfl, World.ownsRow_nil _ _ _ _, Below.refl _ _⟩
    case round =>
      obtain ⟨k, T, hk, rfl, hT, hTl, hown, hbr⟩ := hrel
      have HT := Lib.hid hT
      have HTl := Lib.hid hTl
      have hTl1 : T.length ≤ k := by omega
      have hTl2 : k ≤ T.length := by omega
      have hbs := hbr.size
      clear hT hTl
      by_cases hkn : k < n
      · have hll := fadd_lt hp (nthN L k) (fmul p c (nthN M k))
        rw [show fadd p (nthN L k) (fmul p c (nthN M k)) = lastN p L M c k from rfl] at hll
        by_cases hkM : k < M.length
        · obtain ⟨bB, oB, rfl, hbB, hcB⟩ := (HB.out.below hbr) k hkM
          have hyp := nthN_lt hp HM.out k
          have hm1 := mulN_bound hc hyp hp2
          have hxp := nthN_lt hp HL.out k
          by_cases hkL : k < L.length
          · obtain ⟨bA, oA, rfl, hbA, hcA⟩ := (HA.out.below hbr) k hkL
            have q1 : (c : Int) * (nthN M k : Int) = (c * nthN M k : Nat) := by push_cast; rfl
            have w1 : IntKind.i64.wrap ((c : Int) * (nthN M k : Int)) = (c : Int) * (nthN M k : Int) := IntWalk.i64_in _ (by omega)
            have w2 : IntKind.i64.wrap ((nthN L k : Int) + (c : Int) * (nthN M k : Int)) = (nthN L k : Int) + (c : Int) * (nthN M k : Int) := IntWalk.i64_in _ (by omega)
            have r1 : ((nthN L k : Int) + (c : Int) * (nthN M k : Int)).tmod p = (lastN p L M c k : Nat) := by
              rw [q1, ← Int.natCast_add, Int.tmod_eq_emod_of_nonneg (by omega), ← Int.natCast_emod, lin_both]
            clear q1 hm1
            go_wp2_with (at_builtin; refine app_one rfl (.tmp 42) (.tmp 44) 22 rfl (base := w.heap.size) Tryd.underlying22 info_int rfl rfl hown rfl rfl (by simp only [maxLen]; omega) (by omega) hbs ?_; intro v4 w4 hown4 hg4 hb4)
            have HH := Lib.hid (hbr.trans hb4)
            go_roundw
            case rel =>
              refine ⟨k + 1, T ++ [lastN p L M c k], by omega, by go_num, by rw [HT.out]; exact (linN_take_succ (by rw [← HN.out]; exact hkn)).symm, by simp; exact HTl.out, ?_, HH.out⟩
              simpa [valsN] using hown4
            case measure => simp [intOf]; omega
          · have q1 : (c : Int) * (nthN M k : Int) = (c * nthN M k : Nat) := by push_cast; rfl
            have w1 : IntKind.i64.wrap ((c : Int) * (nthN M k : Int)) = (c : Int) * (nthN M k : Int) := IntWalk.i64_in _ (by omega)
            have w2 : IntKind.i64.wrap (0 + (c : Int) * (nthN M k : Int)) = (c : Int) * (nthN M k : Int) := by rw [Int.zero_add]; exact w1
            have r1 : ((c : Int) * (nthN M k : Int)).tmod p = (lastN p L M c k : Nat) := by
              rw [q1, Int.tmod_eq_emod_of_nonneg (by omega), ← Int.natCast_emod, ← lin_right (by omega), Nat.zero_add]
            clear q1 hm1
            try (exfalso; omega)
            all_goals
              go_wp2_with (at_builtin; refine app_one rfl (.tmp 42) (.tmp 44) 22 rfl (base := w.heap.size) Tryd.underlying22 info_int rfl rfl hown rfl rfl (by simp only [maxLen]; omega) (by omega) hbs ?_; intro v4 w4 hown4 hg4 hb4)
              have HH := Lib.hid (hbr.trans hb4)
              go_roundw
              case rel =>
                refine ⟨k + 1, T ++ [lastN p L M c k], by omega, by go_num, by rw [HT.out]; exact (linN_take_succ (by rw [← HN.out]; exact hkn)).symm, by simp; exact HTl.out, ?_, HH.out⟩
                simpa [valsN] using hown4
              case measure => simp [intOf]; omega
        · obtain ⟨bA, oA, rfl, hbA, hcA⟩ := (HA.out.below hbr) k (by have := HN.out; omega)
          rw [lin_left (c := c) hp HL.out (show M.length ≤ k by omega)] at hcA
          have hkL : k < L.length := by have := HN.out; omega
          try (exfalso; omega)
          all_goals
            go_wp2_with (at_builtin; refine app_one rfl (.tmp 42) (.tmp 44) 22 rfl (base := w.heap.size) Tryd.underlying22 info_int rfl rfl hown rfl rfl (by simp only [maxLen]; omega) (by omega) hbs ?_; intro v4 w4 hown4 hg4 hb4)
            have HH := Lib.hid (hbr.trans hb4)
            go_roundw
            case rel =>
              refine ⟨k + 1, T ++ [lastN p L M c k], by omega, by go_num, by rw [HT.out]; exact (linN_take_succ (by rw [← HN.out]; exact hkn)).symm, by simp; exact HTl.out, ?_, HH.out⟩
              simpa [valsN] using hown4
            case measure => simp [intOf]; omega
      · have hkn2 : k = n := by omega
        have HK := Lib.hid (show T = linN p L M c by rw [HT.out]; exact List.take_of_length_le (by rw [linN_len, hkn2]; have := HN.out; omega))
        clear hkn2
        go_wp2_with fail
        go_ret
        exact ⟨_, rfl, by rw [← HK.out]; exact hown, hbr⟩
end Go.Proofs.YtlhipgejiacklaaDoor
namespace Go.Proofs.YtlhipgejiacklaaDoor

/-! ### The same modulo p -/
def Cg (p : Nat) (a b : Int) : Prop := a % (p : Int) = b % (p : Int)
theorem Cg.refl (p : Nat) (a : Int) : Cg p a a := rfl
theorem Cg.of_eq {p : Nat} {a b : Int} (h : a = b) : Cg p a b := by rw [h]; exact rfl
theorem Cg.symm {p : Nat} {a b : Int} (h : Cg p a b) : Cg p b a := Eq.symm h
theorem Cg.trans {p : Nat} {a b c : Int} (h : Cg p a b) (g : Cg p b c) : Cg p a c := Eq.trans h g
theorem Cg.add {p : Nat} {a b c d : Int} (h : Cg p a b) (g : Cg p c d) : Cg p (a + c) (b + d) := by
  unfold Cg at *; rw [Int.add_emod, h, g, ← Int.add_emod]
theorem Cg.sub {p : Nat} {a b c d : Int} (h : Cg p a b) (g : Cg p c d) : Cg p (a - c) (b - d) := by
  unfold Cg at *; rw [Int.sub_emod, h, g, ← Int.sub_emod]
theorem Cg.mul {p : Nat} {a b c d : Int} (h : Cg p a b) (g : Cg p c d) : Cg p (a * c) (b * d) := by
  unfold Cg at *; rw [Int.mul_emod, h, g, ← Int.mul_emod]
theorem Cg.mod (p : Nat) (a : Int) : Cg p (a % (p : Int)) a := Int.emod_emod_of_dvd a (Int.dvd_refl _)
theorem Cg.nat {p a b : Nat} (h : Cg p a b) (ha : a < p) (hb : b < p) : a = b := by
  unfold Cg at h
  rw [Int.emod_eq_of_lt (by omega) (by omega), Int.emod_eq_of_lt (by omega) (by omega)] at h
  omega
theorem Cg.dvd {p : Nat} {a : Int} (h : Cg p a 0) : (p : Int) ∣ a := by
  unfold Cg at h; rw [Int.zero_emod] at h; exact Int.dvd_of_emod_eq_zero h
theorem Cg.of_dvd {p : Nat} {a : Int} (h : (p : Int) ∣ a) : Cg p a 0 := by
  unfold Cg; rw [Int.zero_emod]; exact Int.emod_eq_zero_of_dvd h
theorem Cg.sub_zero {p : Nat} {a b : Int} (h : Cg p a b) : Cg p (a - b) 0 := (h.sub (Cg.refl p b)).trans (.of_eq (by omega))
theorem Cg.of_sub {p : Nat} {a b : Int} (h : Cg p (a - b) 0) : Cg p a b := ((Cg.of_eq (show a = (a - b) + b by omega)).trans (h.add (Cg.refl p b))).trans (.of_eq (by omega))
theorem Cg.self (p : Nat) : Cg p (p : Int) 0 := Cg.of_dvd (Int.dvd_refl _)
theorem Cg.euclid {p : Nat} (hp : PrimeN p) {a b : Int} (h : Cg p (a * b) 0) : Cg p a 0 ∨ Cg p b 0 := by
  have h1 := h.dvd
  rw [Int.ofNat_dvd_left, Int.natAbs_mul] at h1
  rcases hp.euclid h1 with h2 | h2
  · exact .inl (Cg.of_dvd (by rw [Int.ofNat_dvd_left]; exact h2))
  · exact .inr (Cg.of_dvd (by rw [Int.ofNat_dvd_left]; exact h2))
theorem Cg.cancel {p : Nat} (hp : PrimeN p) {a b c : Int} (ha : ¬ Cg p a 0) (h : Cg p (a * b) (a * c)) : Cg p b c := by
  have h1 := h.sub_zero
  rw [← Int.mul_sub] at h1
  rcases Cg.euclid hp h1 with h2 | h2
  · exact absurd h2 ha
  · exact Cg.of_sub h2
theorem Cg.one_ne {p : Nat} (hp : PrimeN p) : ¬ Cg p 1 0 := fun h => by
  have h1 := h.dvd
  have h2 := Int.le_of_dvd (by omega) h1
  have := hp.1
  omega
theorem Cg.zero_nat {p a : Nat} (h : Cg p a 0) (ha : a < p) : a = 0 := Cg.nat (b := 0) h ha (by omega)

/-! ### The functions on elements -/
theorem cg_mod (p a : Nat) : Cg p ((a % p : Nat) : Int) a := by rw [Int.natCast_emod]; exact Cg.mod p a
theorem cg_add (p a b : Nat) : Cg p (fadd p a b : Nat) ((a : Int) + b) := by
  unfold fadd; rw [← Int.natCast_add]; exact cg_mod p _
theorem cg_mul (p a b : Nat) : Cg p (fmul p a b : Nat) ((a : Int) * b) := by
  unfold fmul; rw [← Int.natCast_mul]; exact cg_mod p _
theorem cg_sub (p a b : Nat) (h : b ≤ p) : Cg p (fsub p a b : Nat) ((a : Int) - b) := by
  unfold fsub
  refine (cg_mod p _).trans ?_
  rw [Int.natCast_add, Int.natCast_sub h]
  refine ((Cg.of_eq (show (a : Int) + ((p : Int) - b) = ((a : Int) - b) + p by omega)).trans ((Cg.refl p _).add (Cg.self p))).trans (.of_eq (by omega))
theorem cg_one (p : Nat) : Cg p (fone p : Nat) 1 := cg_mod p 1
theorem cg_inv {p a : Nat} (hp : PrimeN p) (ha : ¬ Cg p a 0) : Cg p ((a : Int) * (finv p a : Nat)) 1 := by
  have hd : ¬ p ∣ a := fun h => ha (Cg.of_dvd (Int.natCast_dvd_natCast.2 h))
  have h1 := flt hp hd
  have hp2 := hp.1
  have h2 : a * a ^ (p - 2) = a ^ (p - 1) := by rw [Nat.mul_comm, ← Nat.pow_succ]; congr 1; omega
  unfold finv fpow
  refine ((Cg.refl p _).mul (cg_mod p _)).trans ?_
  rw [← Int.natCast_mul, h2]
  unfold Cg
  have h3 : ((a ^ (p - 1) : Nat) : Int) % (p : Int) = ((a ^ (p - 1) % p : Nat) : Int) := (Int.natCast_emod _ _).symm
  rw [h3, h1, Int.emod_eq_of_lt (by omega) (by omega)]; rfl

/-! ### Values of polynomials; roots -/
def evalZ : List Int → Int → Int
  | [], _ => 0
  | c :: L, x => c + x * evalZ L x
theorem evalZ_zero (p : Nat) : ∀ (L : List Int) (x : Int), (∀ c ∈ L, Cg p c 0) → Cg p (evalZ L x) 0
  | [], _, _ => rfl
  | c :: L, x, h => by
    have h1 := (h c (by simp)).add ((Cg.refl p x).mul (evalZ_zero p L x fun d hd => h d (by simp [hd])))
    exact h1.trans (.of_eq (by simp))
/-- What a polynomial leaves when X - a is divided out. -/
def sdiv (a : Int) : List Int → List Int
  | [] => []
  | _ :: [] => []
  | _ :: d :: L => evalZ (d :: L) a :: sdiv a (d :: L)
theorem sdiv_len (a : Int) : ∀ L : List Int, (sdiv a L).length = L.length - 1
  | [] => rfl
  | _ :: [] => rfl
  | _ :: d :: L => by simp [sdiv, sdiv_len a (d :: L)]
theorem sdiv_eval (a x : Int) : ∀ L : List Int, evalZ L x = evalZ L a + (x - a) * evalZ (sdiv a L) x
  | [] => by simp [evalZ, sdiv]
  | c :: [] => by simp [evalZ, sdiv]
  | c :: d :: L => by
    have ih := sdiv_eval a x (d :: L)
    have e1 : evalZ (c :: d :: L) x = c + x * evalZ (d :: L) x := rfl
    have e2 : evalZ (c :: d :: L) a = c + a * evalZ (d :: L) a := rfl
    have e3 : evalZ (sdiv a (c :: d :: L)) x = evalZ (d :: L) a + x * evalZ (sdiv a (d :: L)) x := rfl
    rw [e1, e2, e3, ih]
    grind
theorem sdiv_zero (p : Nat) (a : Int) : ∀ L : List Int, Cg p (evalZ L a) 0 → (∀ c ∈ sdiv a L, Cg p c 0) → ∀ c ∈ L, Cg p c 0
  | [], _, _, c, hc => by cases hc
  | c :: [], h, _, d, hd => by
    simp at hd; subst hd
    simpa [evalZ] using h
  | c :: d :: L, h, hs, e, he => by
    have h1 : Cg p (evalZ (d :: L) a) 0 := hs _ (by simp [sdiv])
    have ih := sdiv_zero p a (d :: L) h1 (fun x hx => hs x (by simp [sdiv, hx]))
    rcases List.mem_cons.1 he with rfl | he
    · have h2 : Cg p (e + a * evalZ (d :: L) a) 0 := h
      have h3 := h2.sub ((Cg.refl p a).mul h1)
      exact ((Cg.of_eq (by grind)).trans h3).trans (.of_eq (by grind))
    · exact ih e he
/-- A polynomial that is 0 at as many different places as it has coefficients has none but 0. -/
theorem roots {p : Nat} (hp : PrimeN p) : ∀ (xs L : List Int), L.length ≤ xs.length → xs.Pairwise (fun a b => ¬ Cg p a b) → (∀ x ∈ xs, Cg p (evalZ L x) 0) → ∀ c ∈ L, Cg p c 0
  | [], L, hl, _, _, c, hc => by
    have : L = [] := List.eq_nil_of_length_eq_zero (by simpa using hl)
    subst this; cases hc
  | a :: xs, L, hl, hd, hz, c, hc => by
    rw [List.pairwise_cons] at hd
    refine sdiv_zero p a L (hz a (by simp)) (roots hp xs (sdiv a L) (by rw [sdiv_len]; simp at hl; omega) hd.2 fun x hx => ?_) c hc
    have h1 := hz x (by simp [hx])
    rw [sdiv_eval a x L] at h1
    have h2 : Cg p ((x - a) * evalZ (sdiv a L) x) 0 := by
      have := h1.sub (hz a (by simp))
      exact ((Cg.of_eq (by grind)).trans this).trans (.of_eq (by omega))
    rcases Cg.euclid hp h2 with h3 | h3
    · exact absurd (Cg.of_sub h3).symm (hd.1 x hx)
    · exact h3

/-! ### Sums, products, and polynomials of them -/
def addP : List Int → List Int → List Int
  | [], M => M
  | L, [] => L
  | a :: L, b :: M => (a + b) :: addP L M
theorem addP_len : ∀ L M : List Int, (addP L M).length = max L.length M.length
  | [], M => by simp [addP]
  | a :: L, [] => by simp [addP]
  | a :: L, b :: M => by simp [addP, addP_len L M]
theorem addP_eval (x : Int) : ∀ L M : List Int, evalZ (addP L M) x = evalZ L x + evalZ M x
  | [], M => by simp [addP, evalZ]
  | a :: L, [] => by simp [addP, evalZ]
  | a :: L, b :: M => by simp only [addP, evalZ, addP_eval x L M]; grind
def smulP (k : Int) (L : List Int) : List Int := L.map fun c => k * c
theorem smulP_len (k : Int) (L : List Int) : (smulP k L).length = L.length := by simp [smulP]
theorem smulP_eval (k x : Int) : ∀ L : List Int, evalZ (smulP k L) x = k * evalZ L x
  | [] => by simp [smulP, evalZ]
  | a :: L => by
    have ih := smulP_eval k x L
    simp only [smulP, List.map_cons, evalZ] at ih ⊢
    rw [ih]; grind
/-- X - y times a polynomial (and prev ahead of it). -/
def mxP (y : Int) : Int → List Int → List Int
  | prev, [] => [prev]
  | prev, c :: P => (prev - y * c) :: mxP y c P
theorem mxP_len (y : Int) : ∀ (prev : Int) (P : List Int), (mxP y prev P).length = P.length + 1
  | _, [] => rfl
  | _, c :: P => by simp [mxP, mxP_len y c P]
theorem mxP_eval (y x : Int) : ∀ (prev : Int) (P : List Int), evalZ (mxP y prev P) x = prev + (x - y) * evalZ P x
  | prev, [] => by simp [mxP, evalZ]
  | prev, c :: P => by simp only [mxP, evalZ, mxP_eval y x c P]; grind
def sumI : Nat → (Nat → Int) → Int
  | 0, _ => 0
  | n + 1, f => sumI n f + f n
def prodE (i : Nat) : Nat → (Nat → Int) → Int
  | 0, _ => 1
  | n + 1, f => if n = i then prodE i n f else prodE i n f * f n
def linE (i : Nat) (xs : Nat → Int) : Nat → List Int
  | 0 => [1]
  | n + 1 => if n = i then linE i xs n else mxP (xs n) 0 (linE i xs n)
theorem linE_eval (i : Nat) (xs : Nat → Int) (x : Int) : ∀ n, evalZ (linE i xs n) x = prodE i n fun k => x - xs k
  | 0 => by simp [linE, evalZ, prodE]
  | n + 1 => by
    have ih := linE_eval i xs x n
    by_cases h : n = i
    · simp only [linE, prodE, if_pos h]; exact ih
    · simp only [linE, prodE, if_neg h]; rw [mxP_eval, ih]; grind
theorem linE_len (i : Nat) (xs : Nat → Int) : ∀ n, (linE i xs n).length = if i < n then n else n + 1
  | 0 => by simp [linE]
  | n + 1 => by
    have ih := linE_len i xs n
    by_cases h : n = i
    · simp only [linE, if_pos h]; rw [ih, if_neg (by omega), if_pos (by omega)]
    · simp only [linE, if_neg h]; rw [mxP_len, ih]
      by_cases h2 : i < n
      · rw [if_pos h2, if_pos (by omega)]
      · rw [if_neg h2, if_neg (by omega)]
theorem prodE_zero {p : Nat} {i : Nat} {f : Nat → Int} : ∀ (n k : Nat), k < n → k ≠ i → Cg p (f k) 0 → Cg p (prodE i n f) 0
  | 0, k, h, _, _ => absurd h (by omega)
  | n + 1, k, h, hk, hz => by
    by_cases hn : n = i
    · simp only [prodE, if_pos hn]; exact prodE_zero n k (by omega) hk hz
    · simp only [prodE, if_neg hn]
      by_cases hkn : k = n
      · subst hkn; exact ((Cg.refl p _).mul hz).trans (.of_eq (by simp))
      · exact ((prodE_zero n k (by omega) hk hz).mul (Cg.refl p _)).trans (.of_eq (by simp))
theorem prodE_ne {p : Nat} (hp : PrimeN p) {i : Nat} {f : Nat → Int} : ∀ n : Nat, (∀ k, k < n → k ≠ i → ¬ Cg p (f k) 0) → ¬ Cg p (prodE i n f) 0
  | 0, _ => Cg.one_ne hp
  | n + 1, h => fun hc => by
    have ih := prodE_ne hp n (fun k hk => h k (by omega))
    by_cases hn : n = i
    · simp only [prodE, if_pos hn] at hc; exact ih hc
    · simp only [prodE, if_neg hn] at hc
      rcases Cg.euclid hp hc with h1 | h1
      · exact ih h1
      · exact h n (by omega) hn h1
theorem prodE_cg {p i : Nat} {f g : Nat → Int} : ∀ n : Nat, (∀ k, k < n → Cg p (f k) (g k)) → Cg p (prodE i n f) (prodE i n g)
  | 0, _ => rfl
  | n + 1, h => by
    have ih := prodE_cg (i := i) n (fun k hk => h k (by omega))
    by_cases hn : n = i
    · simp only [prodE, if_pos hn]; exact ih
    · simp only [prodE, if_neg hn]; exact ih.mul (h n (by omega))
theorem sumI_cg {p : Nat} {f g : Nat → Int} : ∀ n : Nat, (∀ k, k < n → Cg p (f k) (g k)) → Cg p (sumI n f) (sumI n g)
  | 0, _ => rfl
  | n + 1, h => (sumI_cg n (fun k hk => h k (by omega))).add (h n (by omega))
theorem sumI_zero {p : Nat} {f : Nat → Int} : ∀ n : Nat, (∀ k, k < n → Cg p (f k) 0) → Cg p (sumI n f) 0
  | 0, _ => rfl
  | n + 1, h => ((sumI_zero n (fun k hk => h k (by omega))).add (h n (by omega))).trans (.of_eq (by simp))
theorem sumI_one {p : Nat} {f : Nat → Int} (j : Nat) : ∀ n : Nat, j < n → (∀ k, k < n → k ≠ j → Cg p (f k) 0) → Cg p (sumI n f) (f j)
  | 0, hj, _ => absurd hj (by omega)
  | n + 1, hj, h => by
    by_cases hn : n = j
    · subst hn
      exact ((sumI_zero n (fun k hk => h k (by omega) (by omega))).add (Cg.refl p _)).trans (.of_eq (by simp))
    · exact ((sumI_one j n (by omega) (fun k hk => h k (by omega))).add (h n (by omega) hn)).trans (.of_eq (by simp))
theorem sumI_add (f g : Nat → Int) : ∀ n, sumI n (fun k => f k + g k) = sumI n f + sumI n g
  | 0 => by simp [sumI]
  | n + 1 => by simp only [sumI, sumI_add f g n]; omega
theorem sumI_mul (c : Int) (f : Nat → Int) : ∀ n, sumI n (fun k => c * f k) = c * sumI n f
  | 0 => by simp [sumI]
  | n + 1 => by simp only [sumI, sumI_mul c f n]; grind
theorem sumI_ext {f g : Nat → Int} : ∀ n, (∀ k, k < n → f k = g k) → sumI n f = sumI n g
  | 0, _ => rfl
  | n + 1, h => by simp only [sumI]; rw [sumI_ext n (fun k hk => h k (by omega)), h n (by omega)]
theorem sumI_comm (f : Nat → Nat → Int) (n : Nat) : ∀ m, sumI m (fun j => sumI n fun i => f i j) = sumI n fun i => sumI m fun j => f i j
  | 0 => by
    simp only [sumI]
    induction n with
    | zero => rfl
    | succ n ih => simp only [sumI, ← ih]; omega
  | m + 1 => by simp only [sumI]; rw [sumI_comm f n m, ← sumI_add]
def sumP : Nat → (Nat → List Int) → List Int
  | 0, _ => []
  | n + 1, f => addP (sumP n f) (f n)
theorem sumP_eval (f : Nat → List Int) (x : Int) : ∀ n, evalZ (sumP n f) x = sumI n fun k => evalZ (f k) x
  | 0 => rfl
  | n + 1 => by simp only [sumP, sumI]; rw [addP_eval, sumP_eval f x n]
theorem sumP_len (f : Nat → List Int) (m : Nat) : ∀ n, (∀ k, k < n → (f k).length ≤ m) → (sumP n f).length ≤ m
  | 0, _ => Nat.zero_le _
  | n + 1, h => by
    have := sumP_len f m n (fun k hk => h k (by omega))
    have := h n (by omega)
    simp only [sumP]; rw [addP_len]; omega

/-! ### The one polynomial through points -/
/-- Places of which no two are the same. -/
def DiffI (p n : Nat) (xs : Nat → Int) : Prop := ∀ i k, i < n → k < n → i ≠ k → ¬ Cg p (xs i) (xs k)
theorem DiffI.pw {p n : Nat} {xs : Nat → Int} (h : DiffI p n xs) : ((List.range n).map xs).Pairwise (fun a b => ¬ Cg p a b) := by
  rw [List.pairwise_map]
  have h0 : (List.range n).Pairwise (fun a b => a < b) := List.pairwise_lt_range
  refine List.Pairwise.imp_of_mem (fun {a b} ha hb hab => ?_) h0
  exact h a b (List.mem_range.1 ha) (List.mem_range.1 hb) (by omega)
/-- Two polynomials with no more coefficients than there are places, the same at each: the same everywhere, coefficient by coefficient. -/
theorem zero_of_places {p n : Nat} (hp : PrimeN p) {xs : Nat → Int} (hd : DiffI p n xs) {L : List Int} (hl : L.length ≤ n) (hz : ∀ i, i < n → Cg p (evalZ L (xs i)) 0) : ∀ c ∈ L, Cg p c 0 := by
  refine roots hp _ L (by simpa using hl) hd.pw fun x hx => ?_
  obtain ⟨i, hi, rfl⟩ := List.mem_map.1 hx
  exact hz i (List.mem_range.1 hi)
/-- Weights: products of differences, times the inverses of those at the place itself. -/
theorem interp {p n : Nat} (hp : PrimeN p) {xs v : Nat → Int} (hd : DiffI p n xs) (hv : ∀ i, i < n → Cg p (prodE i n (fun k => xs i - xs k) * v i) 1)
    {L : List Int} (hl : L.length ≤ n) (x : Int) : Cg p (sumI n fun i => prodE i n (fun k => x - xs k) * v i * evalZ L (xs i)) (evalZ L x) := by
  have key := zero_of_places hp hd (L := addP (sumP n fun i => smulP (v i * evalZ L (xs i)) (linE i xs n)) (smulP (-1) L))
    (by rw [addP_len, smulP_len]; have := sumP_len (fun i => smulP (v i * evalZ L (xs i)) (linE i xs n)) n n (fun k hk => by rw [smulP_len, linE_len, if_pos hk]; exact Nat.le_refl _); omega) (fun j hj => by
      rw [addP_eval, sumP_eval, smulP_eval]
      have h1 : Cg p (sumI n fun k => evalZ (smulP (v k * evalZ L (xs k)) (linE k xs n)) (xs j)) (evalZ (smulP (v j * evalZ L (xs j)) (linE j xs n)) (xs j)) := sumI_one j n hj (fun k hk hkj => by
        rw [smulP_eval, linE_eval]
        have := prodE_zero (p := p) (f := fun m => xs j - xs m) n j hj (by omega) (Cg.of_eq (by omega)) (i := k)
        exact ((Cg.refl p _).mul this).trans (.of_eq (by simp)))
      rw [smulP_eval, linE_eval] at h1
      have h2 := (hv j hj).mul (Cg.refl p (evalZ L (xs j)))
      have h3 := (h1.trans ((Cg.of_eq (by grind)).trans h2)).add (Cg.refl p (-1 * evalZ L (xs j)))
      exact h3.trans (.of_eq (by omega)))
  have h0 := evalZ_zero p _ x key
  rw [addP_eval, sumP_eval, smulP_eval] at h0
  refine Cg.of_sub (Cg.trans (.of_eq ?_) h0)
  have : (sumI n fun i => prodE i n (fun k => x - xs k) * v i * evalZ L (xs i)) = sumI n fun k => evalZ (smulP (v k * evalZ L (xs k)) (linE k xs n)) x :=
    sumI_ext n fun k _ => by rw [smulP_eval, linE_eval]; grind
  rw [this]; omega
end Go.Proofs.YtlhipgejiacklaaDoor
