/-
  Shares: rows of shares of the own; dealers.
-/
import Derived.Test.YtkjpnhhkebbmdaaDoorShK
namespace Go.Proofs.YtkjpnhhkebbmdaaDoor
open Go.RowKit

/-! ### Rows of shares of the own -/
abbrev HV := Int × Value
def flatH : List HV → List Value
  | [] => []
  | x :: H => .int .i64 x.1 :: x.2 :: flatH H
def hvAt (H : List HV) (k : Nat) : HV := H.getD k (0, .slice none 0 0)
theorem flatH_len : ∀ H : List HV, (flatH H).length = H.length * 2
  | [] => rfl
  | x :: H => by simp [flatH, flatH_len H]; omega
theorem flatH_append : ∀ H K : List HV, flatH (H ++ K) = flatH H ++ flatH K
  | [], K => rfl
  | x :: H, K => by simp [flatH, flatH_append H K]
theorem flatH_at : ∀ (H : List HV) (k : Nat), k < H.length → (flatH H)[k * 2]? = some (.int .i64 (hvAt H k).1) ∧ (flatH H)[k * 2 + 1]? = some (hvAt H k).2
  | [], k, h => absurd h (by simp)
  | x :: H, 0, _ => by simp [flatH, hvAt]
  | x :: H, k + 1, h => by
    have ih := flatH_at H k (by simpa using h)
    rw [show (k + 1) * 2 = k * 2 + 1 + 1 by omega]
    simp only [flatH, List.getElem?_cons_succ]
    exact ih
theorem flatH_set1 : ∀ (H : List HV) (i : Nat) (v : Value), i < H.length → (flatH H).set (i * 2 + 1) v = flatH (H.set i ((hvAt H i).1, v))
  | [], i, _, h => absurd h (by simp)
  | y :: H, 0, v, _ => by simp [flatH, hvAt]
  | y :: H, i + 1, v, h => by
    rw [show (i + 1) * 2 + 1 = i * 2 + 1 + 1 + 1 by omega]
    simp only [flatH, List.set_cons_succ]
    rw [flatH_set1 H i v (by simpa using h)]
    simp [hvAt]
theorem flatH_set0 : ∀ (H : List HV) (i : Nat) (x : Int), i < H.length → (flatH H).set (i * 2) (.int .i64 x) = flatH (H.set i (x, (hvAt H i).2))
  | [], i, _, h => absurd h (by simp)
  | y :: H, 0, x, _ => by simp [flatH, hvAt]
  | y :: H, i + 1, x, h => by
    rw [show (i + 1) * 2 = i * 2 + 1 + 1 by omega]
    simp only [flatH, List.set_cons_succ]
    rw [flatH_set0 H i x (by simpa using h)]
    simp [hvAt]
theorem hvAt_set_same (H : List HV) (i : Nat) (x : HV) (h : i < H.length) : hvAt (H.set i x) i = x := by simp [hvAt, List.getD_eq_getElem?_getD, h]
theorem hvAt_set_other (H : List HV) (i j : Nat) (x : HV) (h : i ≠ j) : hvAt (H.set i x) j = hvAt H j := by simp [hvAt, List.getD_eq_getElem?_getD, h]
def isSl : Value → Bool
  | .slice _ _ _ => true
  | _ => false
theorem flatH_one (H : List HV) (h : ∀ k, k < H.length → isSl (hvAt H k).2 = true) : ∀ u ∈ flatH H, u.oneCell' = true := by
  induction H with
  | nil => intro u hu; cases hu
  | cons x H ih =>
    intro u hu
    simp only [flatH, List.mem_cons] at hu
    rcases hu with rfl | rfl | hu
    · rfl
    · have := h 0 (by simp)
      simp only [hvAt, List.getD_cons_zero] at this
      revert this
      cases x.2 <;> simp [isSl, Value.oneCell']
    · exact ih (fun k hk => by have := h (k + 1) (by simpa using hk); simpa [hvAt] using this) u hu
def HvOwn (w : World) (base : Nat) (v : Value) (H : List HV) : Prop := w.ownsRow base 47 2 v H.length (flatH H)
theorem HvOwn.below {w w' : World} {base : Nat} {v : Value} {H : List HV} (h : HvOwn w base v H) (hb : Below w.heap.size w w') : HvOwn w' base v H := own_below h hb
theorem HvOwn.nil (w : World) (base : Nat) : HvOwn w base (.slice none 0 0) [] := ⟨rfl, .inl ⟨rfl, rfl⟩⟩
/-- What a row of the own looks like. -/
theorem HvOwn.form {w : World} {base : Nat} {v : Value} {H : List HV} (h : HvOwn w base v H) (hl : 0 < H.length) :
    ∃ g c, v = .slice (some ⟨g, 0, none⟩) H.length c ∧ g < w.heap.size ∧ base ≤ g ∧ H.length ≤ c ∧ c ≤ maxLen ∧ (∀ k, k < H.length → w.cell? ⟨g, k * 2, none⟩ = some (.int .i64 (hvAt H k).1) ∧ w.cell? ⟨g, k * 2 + 1, none⟩ = some (hvAt H k).2) ∧ ∀ j, w.frozen? ⟨g, j, none⟩ = false := by
  rcases h.2 with ⟨_, h0⟩ | ⟨g, cap, cur, rfl, hg, hh, hnc, hcm, hcs, htk⟩
  · omega
  · refine ⟨g, cap, rfl, blk_lt hh, hg, hnc, hcm, fun k hk => ?_, fun j => by simp [World.frozen?, hh]⟩
    obtain ⟨f1, f2⟩ := flatH_at H k hk
    exact ⟨by rw [h.cellAt (j := k * 2) (by omega)]; exact f1, by rw [h.cellAt (j := k * 2 + 1) (by omega)]; exact f2⟩
theorem HvOwn.set_cell {w : World} {base g c i : Nat} {H H' : List HV} (u : Value) (j : Nat) (h : HvOwn w base (.slice (some ⟨g, 0, none⟩) H.length c) H) (hl : H'.length = H.length) (hj : j < H.length * 2) (he : flatH H' = (flatH H).set j u) (_ : i = j) :
    HvOwn (w.setCell ⟨g, j, none⟩ u) base (.slice (some ⟨g, 0, none⟩) H'.length c) H' := by
  rcases h.2 with ⟨h0, _⟩ | ⟨g', cap, cur, hv, hg, hh, hnc, hcm, hcs, htk⟩
  · cases h0
  · injection hv with h1 h2 h3
    injection h1 with h1
    injection h1 with h1
    subst h1; subst h3
    refine ⟨by rw [flatH_len], .inr ⟨g, c, cur.setIfInBounds j u, by rw [hl], hg, ?_, by rw [hl]; exact hnc, hcm, by simpa using hcs, ?_⟩⟩
    · simp [World.setCell, Array.getElem?_modify, hh]
    · rw [hl, he, ← htk]
      simp [List.take_set]
theorem HvOwn.set1 {w : World} {base g c : Nat} {H : List HV} (h : HvOwn w base (.slice (some ⟨g, 0, none⟩) H.length c) H) (i : Nat) (hi : i < H.length) (v : Value) :
    HvOwn (w.setCell ⟨g, i * 2 + 1, none⟩ v) base (.slice (some ⟨g, 0, none⟩) H.length c) (H.set i ((hvAt H i).1, v)) := by
  have := HvOwn.set_cell (i := i * 2 + 1) (H' := H.set i ((hvAt H i).1, v)) v (i * 2 + 1) h (by simp) (by omega) (flatH_set1 H i v hi).symm rfl
  rwa [List.length_set] at this
theorem HvOwn.set0 {w : World} {base g c : Nat} {H : List HV} (h : HvOwn w base (.slice (some ⟨g, 0, none⟩) H.length c) H) (i : Nat) (hi : i < H.length) (x : Int) :
    HvOwn (w.setCell ⟨g, i * 2, none⟩ (.int .i64 x)) base (.slice (some ⟨g, 0, none⟩) H.length c) (H.set i (x, (hvAt H i).2)) := by
  have := HvOwn.set_cell (i := i * 2) (H' := H.set i (x, (hvAt H i).2)) (.int .i64 x) (i * 2) h (by simp) (by omega) (flatH_set0 H i x hi).symm rfl
  rwa [List.length_set] at this
theorem HvOwn.kept {w w' : World} {base : Nat} {v : Value} {H : List HV} {row : Option Nat} (h : HvOwn w base v H) (hg : w.grownBy w' row) (hne : v.ownBlock = none ∨ v.ownBlock ≠ row) : HvOwn w' base v H := World.ownsRow.kept h hg hne
theorem own_other {w : World} {base : Nat} {e : TypeId} {size : Nat} {v : Value} {n : Nat} {xs : List Value} (h : w.ownsRow base e size v n xs) (p : Addr) (u : Value) (hp : ∀ b, v.ownBlock = some b → b ≠ p.block) : (w.setCell p u).ownsRow base e size v n xs := by
  obtain ⟨h1, h2⟩ := h
  refine ⟨h1, ?_⟩
  rcases h2 with h2 | ⟨g, cap, cur, hv, hg, hh, r⟩
  · exact .inl h2
  · exact .inr ⟨g, cap, cur, hv, hg, (Below.heap_setCell w p u g (hp g (by rw [hv]; rfl))).trans hh, r⟩

/-! ### Rows of shares whose values are rows of the own too -/
structure Rows2 (w : World) (base : Nat) (v : Value) (H : List HV) (T : List ShN) : Prop where
  out : HvOwn w base v H
  len : H.length = T.length
  hold : ∀ k, k < T.length → (hvAt H k).1 = (hN T k : Int)
  row : ∀ k, k < T.length → w.ownsRow base 3 1 (hvAt H k).2 (vN T k).length (valsN (vN T k))
  ne : ∀ i j, i < T.length → j < T.length → i ≠ j → ∀ b, (hvAt H i).2.ownBlock = some b → (hvAt H j).2.ownBlock = some b → False
  no : ∀ i, i < T.length → ∀ b, (hvAt H i).2.ownBlock = some b → v.ownBlock = some b → False
theorem Rows2.below {w w' : World} {base : Nat} {v : Value} {H : List HV} {T : List ShN} (h : Rows2 w base v H T) (hb : Below w.heap.size w w') : Rows2 w' base v H T :=
  ⟨h.out.below hb, h.len, h.hold, fun k hk => own_below (h.row k hk) hb, h.ne, h.no⟩
theorem own_sl2 {w : World} {base : Nat} {v : Value} {L : List Nat} (h : w.ownsRow base 3 1 v L.length (valsN L)) : isSl v = true := by
  obtain ⟨A, c, rfl, -⟩ := own_sl h rfl; rfl
/-- What such a row is to readers. -/
theorem Rows2.read {w : World} {base : Nat} {v : Value} {H : List HV} {T : List ShN} (h : Rows2 w base v H T) : ∃ A c, v = .slice A T.length c ∧ ShP (fun b => base ≤ b) w A c (shL T) := by
  rcases Nat.eq_zero_or_pos T.length with h0 | h0
  · have : T = [] := List.eq_nil_of_length_eq_zero h0
    subst this
    have hH : H = [] := List.eq_nil_of_length_eq_zero h.len
    have ho := h.out
    subst hH
    rcases ho.2 with ⟨rfl, -⟩ | ⟨g, cap, cur, rfl, hg, hh, hnc, hcm, hcs, htk⟩
    · exact ⟨none, 0, rfl, ShP.nil _ _⟩
    · exact ⟨_, cap, rfl, fun k hk => absurd hk (by simp [shL]), ⟨Nat.zero_le _, hcm, (fun e => by cases e), .inl rfl⟩⟩
  · obtain ⟨g, c, rfl, hg, hbg, hlc, hcm, hcell, -⟩ := h.out.form (by rw [h.len]; exact h0)
    refine ⟨some ⟨g, 0, none⟩, c, by rw [h.len], fun k hk => ?_, ⟨by rw [shL_len, ← h.len]; exact hlc, hcm, (fun e => by cases e), .inr (fun a e => by injection e with e; subst e; rfl)⟩⟩
    rw [shL_len] at hk
    obtain ⟨c1, c2⟩ := hcell k (by rw [h.len]; exact hk)
    obtain ⟨B, c', hv, hN, hS, hb⟩ := own_sl (h.row k hk) rfl
    refine ⟨g, 0, B, c', rfl, hg, hbg, ?_, ?_, ?_⟩
    · rw [Nat.zero_add, c1, h.hold k hk, hS_shL hk]
    · rw [Nat.zero_add, c2, hv, vS_shL, len_ofN]
    · rw [vS_shL]
      exact ⟨hN.ints, by rw [len_ofN]; exact hS.iok, fun b off e => .inr (hb b off e).1⟩
end Go.Proofs.YtkjpnhhkebbmdaaDoor
