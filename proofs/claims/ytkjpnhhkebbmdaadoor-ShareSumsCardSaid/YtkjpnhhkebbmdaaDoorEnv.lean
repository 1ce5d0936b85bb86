/-
  Dice and lists while a statement runs; appends to rows of the own; elements of dice.
-/
import Derived.Test.YtkjpnhhkebbmdaaDoorPolJ2
import Derived.Maps.AppendAt
namespace Go.Proofs.YtkjpnhhkebbmdaaDoor
open Go.RowKit

/-- A list that lies somewhere, not in the dice. -/
structure Held (w : World) (D : Nat) (A : Option Addr) (c : Nat) (L : List Nat) : Prop where
  nats : NatsAt w A L
  ok : SlOK A c L
  off : ∀ b off, A = some ⟨b, off, none⟩ → b ≠ D
theorem Held.mv {w w' : World} {D : Nat} {A : Option Addr} {c : Nat} {L : List Nat} (h : Held w D A c L) (g : w.grownBy w' (some D)) : Held w' D A c L := ⟨h.nats.grown g h.off, h.ok, h.off⟩
theorem Held.below {w w' : World} {D : Nat} {A : Option Addr} {c : Nat} {L : List Nat} (h : Held w D A c L) (hb : Below w.heap.size w w') : Held w' D A c L := h.mv (grown_of_below hb)
/-- The dice, and what was there when the statement began. -/
structure Env (w0 w : World) (D : Nat) (R : List Int) : Prop where
  dice : DiceAt w D R
  low : w0.heap.size ≤ D
  below : Below w0.heap.size w0 w
theorem Env.lt {w0 w : World} {D : Nat} {R : List Int} (h : Env w0 w D R) : D < w.heap.size := h.dice.lt
theorem Env.mv {w0 w w' : World} {D : Nat} {R : List Int} (h : Env w0 w D R) (hb : Below w.heap.size w w') : Env w0 w' D R := ⟨h.dice.below hb, h.low, below_trans h.below hb⟩
theorem Env.next {w0 w w' : World} {D : Nat} {R R' : List Int} (h : Env w0 w D R) (hd : DiceAt w' D R') (g : w.grownBy w' (some D)) : Env w0 w' D R' :=
  ⟨hd, h.low, h.below.trans (grown_below g h.low h.below.size)⟩
theorem held_new {w w' : World} {D : Nat} {A : Option Addr} {c : Nat} {L : List Nat} (hD : D < w.heap.size) (hN : NatsAt w' A L) (hS : SlOK A c L) (hb : ∀ b off, A = some ⟨b, off, none⟩ → w.heap.size ≤ b ∧ b < w'.heap.size) : Held w' D A c L :=
  ⟨hN, hS, fun b off e => by have := hb b off e; omega⟩
def NextN (D : Nat) (n : Int) (R : List Int) (w : World) (e : Ending) (w' : World) : Prop := ∃ m : Nat, e = .returned (.int .i64 (m : Int)) ∧ (m : Int) < n ∧ DiceAt w' D R.tail ∧ w.grownBy w' (some D)
theorem next_nat (D : Nat) (R : List Int) (n : Int) (w : World) (h : DiceAt w D R) (h1 : 1 ≤ n) (hn : n ≤ 4611686018427387904) :
    Calls Tryd.prog 17 #[.pointer (some ⟨D, 0, none⟩), .int .i64 n] w (NextN D n R w) := by
  refine (next_any D R n w h hn).mono ?_
  rintro e w1 ⟨rfl, hD1, hg1⟩
  obtain ⟨x1, x2⟩ := nextV_range R n h1
  exact ⟨(nextV R n).toNat, by rw [Int.toNat_of_nonneg x1], by omega, hD1, hg1⟩
theorem elems_held {D n p : Nat} {w w' : World} {e : Ending} (hD : D < w.heap.size) (h : ElemsP D n p w e w') :
    ∃ A c L R', e = .returned (.slice A L.length c) ∧ L.length = n ∧ (∀ x ∈ L, x < p) ∧ Held w' D A c L ∧ DiceAt w' D R' ∧ w.grownBy w' (some D) := by
  obtain ⟨v, L, R', rfl, hL, hp, hown, hd, hg⟩ := h
  obtain ⟨A, c, rfl, h1, h2, h3⟩ := own_sl hown rfl
  exact ⟨A, c, L, R', rfl, hL, hp, held_new hD h1 h2 h3, hd, hg⟩
/-- A list made before the base of an append stands. -/
theorem NatsAt.app {w0 w w' : World} {A : Option Addr} {L : List Nat} (h0 : NatsAt w0 A L) (h : NatsAt w A L) (hb : Below w0.heap.size w w') : NatsAt w' A L := fun k hk => by
  obtain ⟨b, off, hA, hlt, -⟩ := h0 k hk
  obtain ⟨b', off', hA', hlt', hc⟩ := h k hk
  rw [hA] at hA'; injection hA' with e; injection e with e1 e2; subst e1; subst e2
  exact ⟨b, off, hA, Nat.lt_of_lt_of_le hlt' hb.size, (hb.cell hlt).trans hc⟩
theorem Held.app {w0 w w' : World} {D : Nat} {A : Option Addr} {c : Nat} {L : List Nat} (h0 : NatsAt w0 A L) (h : Held w D A c L) (hb : Below w0.heap.size w w') : Held w' D A c L := ⟨h0.app h.nats hb, h.ok, h.off⟩
theorem Env.app {w0 w w' : World} {D B : Nat} {R : List Int} (h : Env w0 w D R) (hB : D < B) (hb : Below B w w') : Env w0 w' D R :=
  ⟨h.dice.keep fun k hk => hb.block k (by omega), h.low, h.below.trans (hb.mono (by have := h.low; omega))⟩
theorem app_lt {p : Nat} {L M : List Nat} (h : ∀ x ∈ L, x < p) (g : ∀ x ∈ M, x < p) : ∀ x ∈ L ++ M, x < p := fun x hx => (List.mem_append.1 hx).elim (h x) (g x)
theorem own_held {w : World} {base D : Nat} {v : Value} {L : List Nat} (h : w.ownsRow base 3 1 v L.length (valsN L)) (hD : D < base) : ∃ A c, v = .slice A L.length c ∧ Held w D A c L := by
  obtain ⟨A, c, rfl, h1, h2, h3⟩ := own_sl h rfl
  exact ⟨A, c, rfl, h1, h2, fun b off e => by have := h3 b off e; omega⟩
theorem app_nats_at {ops : Array Oper} {rest : List Oper} {o : Oper} {a : Act} {Q : Exit → Act → World → Prop} (hgd : o.guard = none) (s x : Operand)
    (ho : o.op = .call { callee := .builtin .append, args := #[s, x], argTypes := #[22, 22] })
    {base : Nat} {w : World} {v : Value} {S T : List Nat} {ad : Addr} {c : Nat} (hs : a.eval s = v) (hown : w.ownsRow base 3 1 v S.length (valsN S))
    (hx : a.eval x = .slice (some ad) T.length c) (hT : ∀ j u, (valsN T)[j]? = some u → w.cell? (ad.add j) = some u) (hl : S.length + T.length ≤ 4294967296) (hbase : base ≤ w.heap.size)
    (h : ∀ v' w', w'.ownsRow base 3 1 v' (S ++ T).length (valsN (S ++ T)) → w.grownBy w' v.ownBlock → Below base w w' → (v'.ownBlock = v.ownBlock ∨ v'.ownBlock = some w.heap.size) → wpList Tryd.prog ops Q rest (a.put o.dst v') w') :
    wpList Tryd.prog ops Q (o :: rest) a w := by
  obtain ⟨i0, hi, hz0, hz1, hz2⟩ := info_parts info_int
  refine wpList_append_own_at w hgd s x 22 ho base 3 i0 _ 1 8 Tryd.underlying22 hi hz0 hz1 hz2 rfl (by omega) v S.length (valsN S) hs hown _ T.length c (valsN T) hx (by simp [valsN]) hT (valsN_one T) (by unfold maxLen; omega) (by omega) hbase ?_
  intro v' w' h2 h3 _ h5
  refine h v' w' ?_ h3 ((Below.refl _ _).grown h3 hbase (fun k hk => (hown.lt k hk).1)) h5
  rw [List.length_append]; simpa [valsN] using h2
theorem wsR_len (p : Nat) (xs : List Nat) (x : Nat) : (wsR p xs x).length ≤ xs.length := by
  unfold wsR; split
  · rw [wsN_len]; exact Nat.le_refl _
  · exact Nat.zero_le _
theorem thR_len (p : Nat) (xs ys : List Nat) : (thR p xs ys).length ≤ xs.length := by
  unfold thR; split
  · exact thN_len p xs ys
  · exact Nat.zero_le _
theorem sliced_low (A : Option Addr) (h c s : Nat) : sliced A 0 h c s = .slice A h c := by
  unfold sliced
  cases A with
  | none => simp
  | some a => simp [Addr.add]
attribute [local go_sem high] sliced_low
theorem elements_at (D : Nat) (R : List Int) (p n : Nat) (k : Int) (w : World) (hk : k = (n : Int)) (h : DiceAt w D R) (hp : 1 ≤ p) (hp2 : p ≤ 2147483648) (hn : n ≤ 1048576) :
    Calls Tryd.prog 16 #[.pointer (some ⟨D, 0, none⟩), .int .i64 p, .int .i64 k] w (ElemsP D n p w) := by
  subst hk; exact elements_any D R p n w h hp hp2 hn
theorem shN_lt' {p : Nat} {L : List Nat} (h : ∀ x ∈ L, x < p) : ∀ x ∈ shN L, x < p := fun x hx => h x (List.mem_of_mem_take hx)
end Go.Proofs.YtkjpnhhkebbmdaaDoor
