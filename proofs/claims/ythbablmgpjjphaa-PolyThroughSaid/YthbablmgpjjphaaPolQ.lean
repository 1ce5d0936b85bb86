/-
  Polynomials: division, plain; slices that a call made and writes in place.
-/
import Derived.Test.YthbablmgpjjphaaPolK
namespace Go.Proofs.Ythbablmgpjjphaa
open Go.RowKit

/-! ### Plain -/
theorem dvN_q {p : Nat} {b : List Nat} {d inv : Nat} : ∀ (m : Nat) (r q q' : List Nat), (∀ k, nthN q k = nthN q' k) → m ≤ q.length → m ≤ q'.length →
    (dvN p b d inv m r q).1 = (dvN p b d inv m r q').1 ∧ ∀ k, nthN (dvN p b d inv m r q).2 k = nthN (dvN p b d inv m r q').2 k
  | 0, _, _, _, h, _, _ => ⟨rfl, h⟩
  | m + 1, r, q, q', h, h1, h2 => dvN_q m _ _ _ (fun k => by
      by_cases e : m = k
      · subst e; rw [nthN_set_same _ _ _ (by omega), nthN_set_same _ _ _ (by omega)]
      · rw [nthN_set_other _ _ _ _ e, nthN_set_other _ _ _ _ e]; exact h k) (by simp; omega) (by simp; omega)
theorem nthN_zeros (n k : Nat) : nthN (List.replicate n 0) k = 0 := by
  simp only [nthN, List.getD_eq_getElem?_getD, List.getElem?_replicate]; split <;> rfl
/-- What a division gives. -/
def dqN (p : Nat) (a b : List Nat) : List Nat × List Nat := dvN p b (dgN b - 1) (invV p (nthN b (dgN b - 1))) (a.length - (dgN b - 1)) a (List.replicate (a.length - (dgN b - 1)) 0)
def quN (p : Nat) (a b : List Nat) : List Nat := if dgN b = 0 then [] else shN (dqN p a b).2
def reN (p : Nat) (a b : List Nat) : List Nat := if dgN b = 0 then [] else shN (dqN p a b).1
def diE (b : List Nat) : Int := if dgN b = 0 then 7 else 0
theorem di_no {p : Nat} {a b : List Nat} (h : dgN b = 0) : quN p a b = [] ∧ reN p a b = [] ∧ diE b = 7 := by simp [quN, reN, diE, h]
theorem di_ok {p : Nat} {a b : List Nat} (h : ¬ dgN b = 0) : quN p a b = shN (dqN p a b).2 ∧ reN p a b = shN (dqN p a b).1 ∧ diE b = 0 := by simp [quN, reN, diE, h]
theorem dqN_d {p : Nat} {a b : List Nat} {d : Nat} (h : dgN b = d + 1) : dqN p a b = dvN p b d (invV p (nthN b d)) (a.length - d) a (List.replicate (a.length - d) 0) := by
  unfold dqN; rw [h]; rfl

/-- One step, its first k places done. -/
def MidS (p : Nat) (b : List Nat) (c m : Nat) (r : List Nat) (k : Nat) (ds : List Nat) : Prop :=
  ds.length = r.length ∧ ∀ j, j < r.length → nthN ds j = if m ≤ j ∧ j < m + k then fsub p (nthN r j) (fmul p c (nthN b (j - m))) else nthN r j
theorem MidS.start {p : Nat} {b : List Nat} {c m : Nat} {r : List Nat} : MidS p b c m r 0 r := ⟨rfl, fun j _ => by rw [if_neg (by omega)]⟩
theorem MidS.at_ {p : Nat} {b : List Nat} {c m : Nat} {r : List Nat} {k : Nat} {ds : List Nat} (h : MidS p b c m r k ds) (hk : m + k < r.length) : nthN ds (m + k) = nthN r (m + k) := by
  rw [h.2 _ hk, if_neg (by omega)]
theorem MidS.step {p : Nat} {b : List Nat} {c m : Nat} {r : List Nat} {k : Nat} {ds : List Nat} (h : MidS p b c m r k ds) :
    MidS p b c m r (k + 1) (ds.set (m + k) (fsub p (nthN ds (m + k)) (fmul p c (nthN b k)))) := by
  refine ⟨by rw [List.length_set]; exact h.1, fun j hj => ?_⟩
  by_cases e : m + k = j
  · subst e
    rw [nthN_set_same _ _ _ (by rw [h.1]; exact hj), if_pos (by omega), h.at_ hj, Nat.add_sub_cancel_left]
  · rw [nthN_set_other _ _ _ _ e, h.2 j hj]
    by_cases h2 : m ≤ j ∧ j < m + k
    · rw [if_pos h2, if_pos (by omega)]
    · rw [if_neg h2, if_neg (by omega)]
theorem MidS.done {p : Nat} {b : List Nat} {c m d : Nat} {r ds : List Nat} (h : MidS p b c m r (d + 1) ds) : ds = stN p b d c m r :=
  extN (by rw [h.1, stN_len]) fun j hj => by
    rw [h.1] at hj
    rw [h.2 j hj, stN_nth p b d c m r hj]
    by_cases h2 : m ≤ j ∧ j ≤ m + d
    · rw [if_pos h2, if_pos (by omega)]
    · rw [if_neg h2, if_neg (by omega)]
theorem MidS.lt {p : Nat} (hp : 1 ≤ p) {b : List Nat} {c m k : Nat} {r ds : List Nat} (h : MidS p b c m r k ds) (hr : ∀ j, nthN r j < p) (j : Nat) : nthN ds j < p := by
  by_cases hj : j < r.length
  · rw [h.2 j hj]; split
    · exact fsub_lt hp _ _
    · exact hr j
  · rw [nthN_ge (by rw [h.1]; omega)]; omega

/-! ### Slices written in place -/
def NatRow (w : World) (g : Nat) (L : List Nat) : Prop := ∃ cur : Array Value, w.heap[g]? = some (.cells cur 3 (0, 0)) ∧ L.length ≤ cur.size ∧ ∀ j, j < L.length → cur[j]? = some (.int .i64 (nthN L j : Nat))
theorem NatRow.lt {w : World} {g : Nat} {L : List Nat} (h : NatRow w g L) : g < w.heap.size := by
  obtain ⟨cur, h, _⟩ := h
  rcases Nat.lt_or_ge g w.heap.size with hlt | hge
  · exact hlt
  · rw [Array.getElem?_eq_none hge] at h; cases h
theorem NatRow.cell {w : World} {g : Nat} {L : List Nat} (h : NatRow w g L) (j : Nat) (hj : j < L.length) : w.cell? ⟨g, j, none⟩ = some (.int .i64 (nthN L j : Nat)) := by
  obtain ⟨cur, h1, _, h2⟩ := h
  rw [cell_of_row w g j _ _ (0, 0) h1, h2 j hj]
theorem NatRow.frozen {w : World} {g : Nat} {L : List Nat} (h : NatRow w g L) (j : Nat) : w.frozen? ⟨g, j, none⟩ = false := by
  obtain ⟨cur, h1, _⟩ := h; simp [World.frozen?, h1]
theorem NatRow.set_ {w : World} {g : Nat} {L : List Nat} (h : NatRow w g L) (j x : Nat) (hj : j < L.length) : NatRow (w.setCell ⟨g, j, none⟩ (.int .i64 (x : Int))) g (L.set j x) := by
  obtain ⟨cur, h1, h2, h3⟩ := h
  refine ⟨cur.setIfInBounds j (.int .i64 (x : Int)), ?_, by simpa using h2, fun k hk => ?_⟩
  · simp [World.setCell, Array.getElem?_modify, h1]
  · rw [List.length_set] at hk
    by_cases e : j = k
    · subst e
      rw [nthN_set_same _ _ _ hk, Array.getElem?_setIfInBounds_self_of_lt (by omega)]
    · rw [nthN_set_other _ _ _ _ e, Array.getElem?_setIfInBounds_ne e]; exact h3 k hk
theorem NatRow.below {w w' : World} {g : Nat} {L : List Nat} (h : NatRow w g L) (hb : Below w.heap.size w w') : NatRow w' g L := by
  have hlt := h.lt
  obtain ⟨cur, h1, h2⟩ := h
  exact ⟨cur, (hb.block g hlt).trans h1, h2⟩
theorem NatRow.other {w : World} {g : Nat} {L : List Nat} (h : NatRow w g L) (q : Addr) (v : Value) (hq : g ≠ q.block) : NatRow (w.setCell q v) g L := by
  obtain ⟨cur, h1, h2⟩ := h
  exact ⟨cur, (Below.heap_setCell w q v g hq).trans h1, h2⟩
theorem NatRow.nats {w : World} {g : Nat} {L : List Nat} (h : NatRow w g L) : NatsAt w (some ⟨g, 0, none⟩) L := fun k hk => ⟨g, 0, rfl, h.lt, by rw [Nat.zero_add]; exact h.cell k hk⟩
theorem NatBlk.other {w : World} {g : Nat} {L : List Nat} (h : NatBlk w g L) (q : Addr) (v : Value) (hq : g ≠ q.block) : NatBlk (w.setCell q v) g L := (Below.heap_setCell w q v g hq).trans h
/-- A slice of the call's own: empty, or a row of a block from base on. -/
def RowAt (w : World) (base : Nat) (A : Option Addr) (L : List Nat) : Prop := L.length = 0 ∨ ∃ g, A = some ⟨g, 0, none⟩ ∧ base ≤ g ∧ NatRow w g L
theorem RowAt.nats {w : World} {base : Nat} {A : Option Addr} {L : List Nat} (h : RowAt w base A L) : NatsAt w A L := by
  rcases h with h | ⟨g, rfl, _, h⟩
  · exact fun k hk => absurd hk (by omega)
  · exact h.nats
theorem RowAt.below {w w' : World} {base : Nat} {A : Option Addr} {L : List Nat} (h : RowAt w base A L) (hb : Below w.heap.size w w') : RowAt w' base A L := by
  rcases h with h | ⟨g, h1, h2, h⟩
  · exact .inl h
  · exact .inr ⟨g, h1, h2, h.below hb⟩
theorem RowAt.mono {w : World} {base base' : Nat} {A : Option Addr} {L : List Nat} (h : RowAt w base A L) (hb : base' ≤ base) : RowAt w base' A L := by
  rcases h with h | ⟨g, h1, h2, h⟩
  · exact .inl h
  · exact .inr ⟨g, h1, by omega, h⟩
theorem row_of_own {w : World} {base : Nat} {v : Value} {L : List Nat} {n : Nat} (h : w.ownsRow base 3 1 v n (valsN L)) (hn : n = L.length) :
    ∃ A c, v = .slice A L.length c ∧ SlOK A c L ∧ RowAt w base A L := by
  obtain ⟨A, c, hv, hN, hS, hb⟩ := own_sl h hn
  refine ⟨A, c, hv, hS, ?_⟩
  subst hn
  rcases h.2 with ⟨h1, h0⟩ | ⟨g, cap, cur, h1, hg, hh, hnc, hcm, hcs, htk⟩
  · exact .inl h0
  · rw [hv] at h1; injection h1 with h2 h3 h4; subst h2
    refine .inr ⟨g, rfl, hg, cur, hh, by omega, fun j hj => ?_⟩
    have e : cur[j]? = (valsN L)[j]? := by
      rw [← htk, List.getElem?_take_of_lt (by omega)]; simp
    rw [e, List.getElem?_map, nthN_eq hj, List.getElem?_eq_getElem hj]; rfl
/-- Two lists, and an error. -/
def DivP (q r : List Nat) (er : Int) (w : World) (e : Ending) (w' : World) : Prop :=
  ∃ A c B c', e = .returned (.tuple #[.slice A q.length c, .slice B r.length c', .int .i64 er]) ∧ NatsAt w' A q ∧ SlOK A c q ∧ NatsAt w' B r ∧ SlOK B c' r ∧ Below w.heap.size w w'
theorem DivP.nil (er : Int) {w w' : World} (hb : Below w.heap.size w w') : DivP [] [] er w (.returned (.tuple #[.slice none 0 0, .slice none 0 0, .int .i64 er])) w' :=
  ⟨none, 0, none, 0, rfl, NatsAt.nil _ _, SlOK.none0, NatsAt.nil _ _, SlOK.none0, hb⟩
end Go.Proofs.Ythbablmgpjjphaa
