/-
  Budgets made by dice: Of, Budget.
-/
import Derived.Test.YtmnkgfimdlhhiaaBudK
namespace Go.Proofs.Ytmnkgfimdlhhiaa
open Go.RowKit

/-- One of some numbers. -/
def OfP (D : Nat) (L R : List Int) (w : World) (e : Ending) (w' : World) : Prop := ∃ k : Nat, k < L.length ∧ e = .returned (.int .i64 (nth L k)) ∧ DiceAt w' D R.tail ∧ w.grownBy w' (some D)
set_option maxHeartbeats 1000000 in
theorem of_any (D : Nat) (R : List Int) (A : Option Addr) (L : List Int) (c : Nat) (w : World) (h : DiceAt w D R) (hI : IntsAt w A L) (hA : ∀ b off, A = some ⟨b, off, none⟩ → b ≠ D) (h0 : 0 < L.length) (hl : L.length ≤ 1000) :
    Calls Try.prog 17 #[.pointer (some ⟨D, 0, none⟩), .slice A L.length c] w (OfP D L R w) := by
  have HI := Lib.hid hI
  have HA := Lib.hid hA
  have HD := Lib.hid h
  clear hI hA h
  go_enter Try.func17, Try.ntmps17
  go_wp2_with fail
  refine (next_any D R L.length _ HD.out (by omega)).mono ?_
  rintro e w1 ⟨rfl, hD1, hg⟩
  obtain ⟨m1, m2⟩ := nextV_range R L.length (by omega)
  generalize nextV R L.length = q at *
  obtain ⟨k, rfl⟩ := Int.eq_ofNat_of_zero_le m1
  have hk : k < L.length := by omega
  obtain ⟨b, off, rfl, hb, hc⟩ := (HI.out.grown hg HA.out) k hk
  have HR := Lib.hid (show OfP D L R w (.returned (.int .i64 (nth L k))) w1 from ⟨k, hk, rfl, hD1, hg⟩)
  clear hD1 hg m1
  go_wp2_with fail
  go_ret
  exact HR.out

/-! ### Adding a spend -/
/-- Rows up to now are good, none is later than the time, no period is overspent. -/
structure Made (P A : Int) (S : List Spd) (time : Int) : Prop where
  rows : ∀ k, k < S.length → RowOK S k
  last : ∀ k, k < S.length → tS S k ≤ time
  fits : ∀ k, k < S.length → used P S (tS S k) ≤ A
theorem Made.nil (P A : Int) : Made P A [] 0 := ⟨fun k hk => absurd hk (by simp), fun k hk => absurd hk (by simp), fun k hk => absurd hk (by simp)⟩
theorem Made.later {P A : Int} {S : List Spd} {t t' : Int} (h : Made P A S t) (ht : t ≤ t') : Made P A S t' := ⟨h.rows, fun k hk => by have := h.last k hk; omega, h.fits⟩
theorem getD_old {S : List Spd} {y : Spd} {k : Nat} (hk : k < S.length) : (S ++ [y]).getD k (0, 0) = S.getD k (0, 0) := by
  simp [List.getD_eq_getElem?_getD, List.getElem?_append_left hk]
theorem getD_new {S : List Spd} {y : Spd} : (S ++ [y]).getD S.length (0, 0) = y := by
  simp [List.getD_eq_getElem?_getD]
theorem sumK_old {T : Spd → Bool} {S : List Spd} {y : Spd} : ∀ k, k ≤ S.length → sumK T (S ++ [y]) k = sumK T S k
  | 0, _ => rfl
  | k + 1, hk => by rw [sumK_succ, sumK_succ, sumK_old k (by omega), getD_old (by omega)]
theorem sumT_snoc (T : Spd → Bool) (S : List Spd) (y : Spd) : sumT T (S ++ [y]) = sumT T S + addT T y := by
  unfold sumT
  rw [List.length_append, List.length_singleton, sumK_succ, sumK_old _ (Nat.le_refl _), getD_new]
theorem used_same {P t t' : Int} (S : List Spd) (h : t / P = t' / P) : used P S t = used P S t' := by
  unfold used; congr 1; funext x; unfold perT; rw [h]
theorem Made.snoc {P A : Int} {S : List Spd} {t c : Int} (h : Made P A S t) (ht : 0 ≤ t ∧ t ≤ 1099511627776) (hc : 1 ≤ c ∧ c ≤ 1073741824) (hu : used P S t + c ≤ A) : Made P A (S ++ [(t, c)]) t := by
  have key : ∀ k, k < (S ++ [((t, c) : Spd)]).length → k < S.length ∨ k = S.length := fun k hk => by simp at hk; omega
  refine ⟨fun k hk => ?_, fun k hk => ?_, fun k hk => ?_⟩
  · rcases key k hk with h1 | h1
    · have hr := h.rows k h1
      unfold RowOK tS cS at hr ⊢
      rw [getD_old h1]
      refine ⟨hr.1, hr.2.1, fun h0 => ?_, hr.2.2.2.1, hr.2.2.2.2⟩
      rw [getD_old (show k - 1 < S.length by omega)]; exact hr.2.2.1 h0
    · subst h1
      unfold RowOK tS cS
      rw [getD_new]
      refine ⟨ht.1, ht.2, fun h0 => ?_, hc.1, hc.2⟩
      rw [getD_old (show S.length - 1 < S.length by omega)]; exact h.last _ (by omega)
  · rcases key k hk with h1 | h1
    · unfold tS; rw [getD_old h1]; exact h.last k h1
    · subst h1; unfold tS; rw [getD_new]; exact Int.le_refl _
  · have hsum : ∀ t', used P (S ++ [((t, c) : Spd)]) t' = used P S t' + addT (perT P t') (t, c) := fun t' => sumT_snoc _ _ _
    rcases key k hk with h1 | h1
    · have e : tS (S ++ [((t, c) : Spd)]) k = tS S k := by unfold tS; rw [getD_old h1]
      rw [e, hsum]
      by_cases hp : t / P = tS S k / P
      · rw [used_same S hp.symm, addT_yes (by unfold perT; exact decide_eq_true hp)]; exact hu
      · rw [addT_no (by unfold perT; exact decide_eq_false hp), Int.add_zero]; exact h.fits k h1
    · subst h1
      have e : tS (S ++ [((t, c) : Spd)]) S.length = t := by unfold tS; rw [getD_new]
      rw [e, hsum, addT_yes (by unfold perT; exact decide_eq_true rfl)]; exact hu
theorem Made.ok {P A : Int} {S : List Spd} {t : Int} (h : Made P A S t) (hP : 1 ≤ P ∧ P ≤ 1099511627776) (hA : 0 ≤ A ∧ A ≤ 1073741824) (hl : S.length ≤ 256) : BudOK P A S := ⟨⟨hP.1, hP.2, hA.1, hA.2, hl⟩, h.rows, h.fits⟩
end Go.Proofs.Ytmnkgfimdlhhiaa
