/-
  Words that all later texts of this claim use: what a call returns, and what it leaves of memory.
-/
import Derived.Test.YtkjpnhhkebbmdaaDoorProg
import Derived.WalkKit
import Derived.WalkSpells
import Derived.WalkLawsBesides
import Derived.Deep.QuietTactic
import Derived.BigQuiet
import Derived.Lib.Hide
namespace Go.Proofs.YtkjpnhhkebbmdaaDoor
open Go.RowKit

/-- The call returns v and leaves the world as it was. -/
def Ret (v : Value) (w : World) (e : Ending) (w' : World) : Prop := e = .returned v ∧ w' = w
/-- The call returns v; what was there is as it was. -/
def RetB (v : Value) (w : World) (e : Ending) (w' : World) : Prop := e = .returned v ∧ Below w.heap.size w w'
/-- The call returns something of which Φ holds; what was there is as it was. -/
def RetP (Φ : Value → World → Prop) (w : World) (e : Ending) (w' : World) : Prop := ∃ v, e = .returned v ∧ Below w.heap.size w w' ∧ Φ v w'

theorem Ret.val {v u : Value} {w : World} (h : u = v) : Ret v w (.returned u) w := ⟨by rw [h], rfl⟩
theorem Ret.int {k : IntKind} {m u : Int} {w : World} (h : u = m) : Ret (.int k m) w (.returned (.int k u)) w := ⟨by rw [h], rfl⟩
theorem Ret.bool {m u : Bool} {w : World} (h : u = m) : Ret (.bool m) w (.returned (.bool u)) w := ⟨by rw [h], rfl⟩
theorem RetB.val {v u : Value} {w w' : World} (h : u = v) (hb : Below w.heap.size w w') : RetB v w (.returned u) w' := ⟨by rw [h], hb⟩
theorem RetB.int {k : IntKind} {m u : Int} {w w' : World} (h : u = m) (hb : Below w.heap.size w w') : RetB (.int k m) w (.returned (.int k u)) w' := ⟨by rw [h], hb⟩
theorem RetB.bool {m u : Bool} {w w' : World} (h : u = m) (hb : Below w.heap.size w w') : RetB (.bool m) w (.returned (.bool u)) w' := ⟨by rw [h], hb⟩
theorem RetP.mk {Φ : Value → World → Prop} {v : Value} {w w' : World} (hb : Below w.heap.size w w') (h : Φ v w') : RetP Φ w (.returned v) w' := ⟨v, rfl, hb, h⟩

/-- What a world that keeps all below says of old cells. -/
theorem bcell {B : Nat} {W w1 : World} (hb : Below B W w1) : (∀ b o, b < B → w1.cell? ⟨b, o, none⟩ = W.cell? ⟨b, o, none⟩) ∧ (∀ b o, b < B → w1.frozen? ⟨b, o, none⟩ = W.frozen? ⟨b, o, none⟩) :=
  ⟨fun b o h => hb.cell (p := ⟨b, o, none⟩) h, fun b o h => hb.frozen (p := ⟨b, o, none⟩) h⟩

/-- A world in which all that was there stands as it stood, and more may have come. -/
structure Grew (w : World) where
  to : World
  ok : Below w.heap.size w to
instance (w : World) : Nonempty (Grew w) := ⟨⟨w, Below.refl _ _⟩⟩
def grewW (w : World) (t : Grew w) : World := t.to
theorem grewW.below (w : World) (t : Grew w) : Below w.heap.size w (grewW w t) := t.ok
@[simp, go_sem] theorem cell_grewW (w : World) (t : Grew w) (b o : Nat) (h : b < w.heap.size) : (grewW w t).cell? ⟨b, o, none⟩ = w.cell? ⟨b, o, none⟩ := t.ok.cell h
@[simp, go_sem] theorem frozen_grewW (w : World) (t : Grew w) (b o : Nat) (h : b < w.heap.size) : (grewW w t).frozen? ⟨b, o, none⟩ = w.frozen? ⟨b, o, none⟩ := t.ok.frozen h
theorem IsGrew {w w' : World} (h : Below w.heap.size w w') : ∃ t, w' = grewW w t := ⟨⟨w', h⟩, rfl⟩

/-- A region that draws its order, whose operations read what was there, and whose callees keep it: the walk in the text's order serves. -/
theorem wp_region_grew {P : Program} {id : Nat} {Q : Exit → Act → World → Prop} {a : Act} {w : World} {l : List Oper} (hm : P.follows .mixedOrders = true) (hB : Region.lexB .any l.toArray = true)
    (h : wpQuiet P l.toArray (fun w' => ∃ t, w' = grewW w t) (fun a' => ∀ w', Below w.heap.size w w' → Q .normal a' w') l a) : (Code.region id l.toArray true).wp P Q a w := by
  refine wp_region_quiet (C := fun w' => ∃ t, w' = grewW w t) hm hB (IsGrew (Below.refl _ _).drew) ?_
  have e : (fun a' => ∀ w', (∃ t, w' = grewW w t) → Q .normal a' w') = (fun a' => ∀ w', Below w.heap.size w w' → Q .normal a' w') := by
    funext a'
    exact propext ⟨fun g w' hb => g w' (IsGrew hb), fun g w' ⟨t, ht⟩ => ht ▸ g _ t.ok⟩
  rw [e]
  simpa using h
/-- A callee's contract, met in a grown world. -/
theorem grew_of {P : Program} {f : FuncId} {args : Array Value} {w : World} {t : Grew w} {v : Value}
    (h : Calls P f args (grewW w t) (RetB v (grewW w t))) : Calls P f args (grewW w t) fun e w'' => e = .returned v ∧ ∃ m, w'' = grewW w m :=
  h.mono fun _ _ ⟨he, hb⟩ => ⟨he, IsGrew (t.ok.trans (hb.mono t.ok.size))⟩
theorem grew_same {P : Program} {f : FuncId} {args : Array Value} {w : World} {t : Grew w} {v : Value}
    (h : Calls P f args (grewW w t) (Ret v (grewW w t))) : Calls P f args (grewW w t) fun e w'' => e = .returned v ∧ ∃ m, w'' = grewW w m :=
  h.mono fun _ _ ⟨he, hb⟩ => ⟨he, t, hb⟩

/-- The world behind a name. -/
theorem gen_world {P : Program} {c : Code} {Q : Exit → Act → World → Prop} {a : Act} {w : World} (h : ∀ w1, w1 = w → c.wp P Q a w1) : c.wp P Q a w := h w rfl

theorem ownsRow_mono {w : World} {base base' : Nat} {e : TypeId} {size : Nat} {v : Value} {n : Nat} {xs : List Value} (h : w.ownsRow base e size v n xs) (hb : base' ≤ base) : w.ownsRow base' e size v n xs := by
  obtain ⟨h1, h2⟩ := h
  refine ⟨h1, ?_⟩
  rcases h2 with h2 | ⟨g, cap, cur, hv, hg, r⟩
  · exact Or.inl h2
  · exact Or.inr ⟨g, cap, cur, hv, Nat.le_trans hb hg, r⟩

theorem own_below {w w' : World} {base : Nat} {e : TypeId} {size : Nat} {v : Value} {n : Nat} {xs : List Value} (h : w.ownsRow base e size v n xs) (hb : Below w.heap.size w w') : w'.ownsRow base e size v n xs := by
  obtain ⟨h1, h2⟩ := h
  refine ⟨h1, ?_⟩
  rcases h2 with h2 | ⟨g, cap, cur, hv, hg, hh, r⟩
  · exact Or.inl h2
  · refine Or.inr ⟨g, cap, cur, hv, hg, ?_, r⟩
    have hlt : g < w.heap.size := by
      rcases Nat.lt_or_ge g w.heap.size with hlt | hge
      · exact hlt
      · rw [Array.getElem?_eq_none hge] at hh; cases hh
    exact (hb.block g hlt).trans hh

/-- append of one element onto a row of the call's own, the element's slice just made. -/
theorem app_one {P : Program} {ops : Array Oper} {rest : List Oper} {o : Oper} {a : Act} {Q : Exit → Act → World → Prop} (hgd : o.guard = none) (s x : Operand) (t : TypeId)
    (ho : o.op = .call { callee := .builtin .append, args := #[s, x], argTypes := #[t, t] })
    {base : Nat} {e : TypeId} {z : Value} {bytes : Nat} (ht : P.underlying t = some (.slice e)) (hinfo : (P.info? e).map (fun i => (i.zero, i.size, i.bytes)) = some (some z, 1, bytes)) (hzs : z.cells.size = 1)
    {w : World} {v : Value} {n : Nat} {xs : List Value} {u : Value} (hs : a.eval s = v) (hown : w.ownsRow base e 1 v n xs)
    (hx : a.eval x = .slice (some ⟨w.heap.size, 0, none⟩) 1 1) (h1 : u.oneCell' = true) (h63 : n + 1 ≤ maxLen) (hbytes : (n + 1) * bytes ≤ 140737488355328) (hbase : base ≤ w.heap.size)
    (h : ∀ v' w', w'.ownsRow base e 1 v' (n + 1) (xs ++ [u]) → w.grownBy w' v.ownBlock → Below base w w' → wpList P ops Q rest (a.put o.dst v') w') :
    wpList P ops Q (o :: rest) a (w.alloc (.cells #[u] e)) := by
  obtain ⟨i0, hi, hz0, hz1, hz2⟩ := info_parts hinfo
  refine wpList_append_own _ hgd s x t ho base e i0 z 1 bytes ht hi hz0 hz1 hz2 hzs (by omega) v n xs hs (hown.alloc _) ⟨w.heap.size, 0, none⟩ 1 1 [u] hx rfl ?_ ?_ h63 hbytes (by simp; omega) ?_
  · intro j y hj
    rcases j with _ | j
    · simp at hj; subst hj
      simp [Addr.add]
    · simp at hj
  · intro y hy; simp at hy; subst hy; exact h1
  · intro v' w' h2 h3 _
    have hg : w.grownBy w' v.ownBlock := ⟨h3.os, h3.tape, h3.output, Nat.le_trans (by simp) h3.size, fun k hk hne => (h3.block k (by simp; omega) hne).trans (Below.heap_alloc w _ k hk)⟩
    exact h v' w' h2 hg ((Below.refl _ _).grown hg hbase (fun k hk => (hown.lt k hk).1))
end Go.Proofs.YtkjpnhhkebbmdaaDoor
