/-
  A slice of spends that came in reads as a list.
-/
import Derived.Test.YtmnkgfimdlhhiaaBudE
import Derived.Test.YtmnkgfimdlhhiaaOpen
import Derived.Deep.SlicePairs
namespace Go.Proofs.Ytmnkgfimdlhhiaa
open Go.RowKit Go.ChangeShapes Go.WideShapes

theorem open_spends {H : Type} {enc : TypeId × Value → H} {w : World} {base : Nat} {spare : Nat → Bool} {held : Bool} {n : Nat} {v : Value} {y : DataW H × List MemPlace} (h : DataW.trod enc Try.prog w base spare held n 22 [v] = some y) :
    ∃ (B : Option Addr) (S : List Spd) (c : Nat), v = .slice B S.length c ∧ S.length ≤ maxLen ∧ SpAt w B S ∧ (∀ a, B = some a → a.spot = none ∨ S.length = 0) ∧ (B = none → S.length = 0 ∧ c = 0) := by
  rcases Deep.open_slice_pairs Try.underlying22 Try.underlying33 (by kernel_rfl) rfl rfl (by kernel_rfl) (by kernel_rfl) h with ⟨hcs, _⟩ | ⟨a, len, cap, m, n', V0, V1, D0, D1, P0, P1, hcs, _, hl, hm, hmm, _, hx⟩
  · simp only [List.cons.injEq, and_true] at hcs
    subst hcs
    exact ⟨none, [], 0, rfl, by simp [maxLen], SpAt.nil _ _, fun a e => (by cases e), fun _ => ⟨rfl, rfl⟩⟩
  · simp only [List.cons.injEq, and_true] at hcs
    subst hcs
    have hlm : len ≤ m := by rw [hmm]; split <;> omega
    have each : ∀ i, i < m → ∃ q : Int × Int, w.cell? (a.add (i * 2)) = some (.int .i64 q.1) ∧ w.cell? (a.add (i * 2 + 1)) = some (.int .i64 q.2) := fun i hi => by
      obtain ⟨h1, h2, h3, h4⟩ := hx i hi
      obtain ⟨t, e1, _, _⟩ := DataW.trod_int Try.underlying3 h3
      obtain ⟨c, e2, _, _⟩ := DataW.trod_int Try.underlying3 h4
      simp only [List.cons.injEq, and_true] at e1 e2
      exact ⟨(t, c), by rw [h1, e1], by rw [h2, e2]⟩
    have hq : ∃ q : Nat → Int × Int, ∀ i, i < m → w.cell? (a.add (i * 2)) = some (.int .i64 (q i).1) ∧ w.cell? (a.add (i * 2 + 1)) = some (.int .i64 (q i).2) :=
      ⟨fun i => if h : i < m then (each i h).choose else (0, 0), fun i hi => by simp only [dif_pos hi]; exact (each i hi).choose_spec⟩
    obtain ⟨q, hq⟩ := hq
    have hlen : ((List.range len).map q).length = len := by simp
    have hspot : 0 < len → a.spot = none := fun h0 => by
      have := World.cell?_spot (hq 0 (by omega)).1
      simpa [Addr.add] using this
    refine ⟨some a, (List.range len).map q, cap, by rw [hlen], by rw [hlen]; omega, fun k hk => ?_, fun a' e => ?_, fun e => (by cases e)⟩
    · rw [hlen] at hk
      have hs := hspot (by omega)
      obtain ⟨b, off, spot⟩ := a
      have hs : spot = none := hs
      subst hs
      obtain ⟨h1, h2⟩ := hq k (by omega)
      have e0 : ∀ j, (⟨b, off, none⟩ : Addr).add j = ⟨b, off + j, none⟩ := fun j => by
        unfold Addr.add; split
        · rename_i h; subst h; rfl
        · rfl
      rw [e0] at h1 h2
      have hlt := cell_block_lt h1
      refine ⟨b, off, rfl, hlt, ?_, ?_⟩
      · rw [h1]; unfold tS; simp [List.getD_eq_getElem?_getD, hk]
      · rw [show off + k * 2 + 1 = off + (k * 2 + 1) by omega, h2]; unfold cS; simp [List.getD_eq_getElem?_getD, hk]
    · injection e with e
      subst e
      rw [hlen]
      rcases Nat.eq_zero_or_pos len with h0 | h0
      · exact .inr h0
      · exact .inl (hspot h0)
end Go.Proofs.Ytmnkgfimdlhhiaa
