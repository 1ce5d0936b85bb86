/-
  Budgets: plain laws of totals and of cleaning. No program in sight.
-/
import Derived.Test.YtmnkgfimdlhhiaaBudP
namespace Go.Proofs.Ytmnkgfimdlhhiaa

theorem sumK_cons (T : Spd → Bool) (x : Spd) (S : List Spd) : ∀ k, sumK T (x :: S) (k + 1) = addT T x + sumK T S k
  | 0 => by simp [sumK]
  | k + 1 => by
    rw [sumK_succ, sumK_cons T x S k, sumK_succ, Int.add_assoc]; rfl
theorem sumT_cons (T : Spd → Bool) (x : Spd) (S : List Spd) : sumT T (x :: S) = addT T x + sumT T S := sumK_cons T x S S.length
theorem sumT_add {T T1 T2 : Spd → Bool} : ∀ S : List Spd, (∀ y ∈ S, addT T1 y + addT T2 y = addT T y) → sumT T1 S + sumT T2 S = sumT T S
  | [], _ => rfl
  | x :: S, h => by
    have ih := sumT_add S (fun y hy => h y (by simp [hy]))
    have h1 := h x (by simp)
    rw [sumT_cons, sumT_cons, sumT_cons]; omega
theorem tot_split (S : List Spd) {a m b : Int} (h1 : a ≤ m + 1) (h2 : m ≤ b) : totV S a m + totV S (m + 1) b = totV S a b := by
  refine sumT_add S fun y _ => ?_
  unfold addT spanT inI
  by_cases c1 : a ≤ y.1 <;> by_cases c2 : y.1 ≤ m <;> by_cases c3 : m + 1 ≤ y.1 <;> by_cases c4 : y.1 ≤ b <;> simp [c1, c2, c3, c4] <;> omega
theorem tot_empty (S : List Spd) {a b : Int} (h : b < a) : totV S a b = 0 := by
  unfold totV
  induction S with
  | nil => rfl
  | cons x S ih =>
    rw [sumT_cons, ih, addT_no]; rfl
    unfold spanT inI; exact decide_eq_false (by omega)
theorem sumT_nonneg {S : List Spd} (h : ∀ y ∈ S, 0 ≤ y.2) (T : Spd → Bool) : 0 ≤ sumT T S := by
  induction S with
  | nil => exact Int.le_refl _
  | cons x S ih =>
    have h1 := ih (fun y hy => h y (by simp [hy]))
    have h2 := h x (by simp)
    rw [sumT_cons]
    unfold addT; split <;> omega
theorem sumT_filter_le {S : List Spd} (h : ∀ y ∈ S, 0 ≤ y.2) (T p : Spd → Bool) : sumT T (S.filter p) ≤ sumT T S := by
  induction S with
  | nil => exact Int.le_refl _
  | cons x S ih =>
    have h1 := ih (fun y hy => h y (by simp [hy]))
    have h2 := h x (by simp)
    rw [List.filter_cons]
    split
    · rw [sumT_cons, sumT_cons]; omega
    · rw [sumT_cons]; unfold addT; split <;> omega
theorem sumT_filter_eq {S : List Spd} {T p : Spd → Bool} (h : ∀ y ∈ S, p y = false → T y = false) : sumT T (S.filter p) = sumT T S := by
  induction S with
  | nil => rfl
  | cons x S ih =>
    have h1 := ih (fun y hy => h y (by simp [hy]))
    rw [List.filter_cons]
    by_cases hp : p x = true
    · rw [if_pos hp, sumT_cons, sumT_cons, h1]
    · rw [if_neg hp, sumT_cons, h1, addT_no (h x (by simp) (by simpa using hp)), Int.zero_add]
theorem getD_mem {S : List Spd} {k : Nat} (hk : k < S.length) : S.getD k (0, 0) ∈ S := by
  simp [List.getD_eq_getElem?_getD, hk]
theorem mem_getD {S : List Spd} {y : Spd} (h : y ∈ S) : ∃ k, k < S.length ∧ S.getD k (0, 0) = y := by
  obtain ⟨k, hk, rfl⟩ := List.getElem_of_mem h
  exact ⟨k, hk, by simp [List.getD_eq_getElem?_getD, hk]⟩
/-- Good rows are rising rows. -/
theorem rows_pairwise {S : List Spd} (h : ∀ k, k < S.length → RowOK S k) : S.Pairwise (fun x y => x.1 ≤ y.1) := by
  have step : ∀ d k, k + d < S.length → tS S k ≤ tS S (k + d) := by
    intro d
    induction d with
    | zero => intro k _; exact Int.le_refl _
    | succ d ih =>
      intro k hk
      have h1 := ih k (by omega)
      have h2 := (h (k + d + 1) (by omega)).2.2.1 (by omega)
      rw [show k + d + 1 - 1 = k + d by omega] at h2
      rw [show k + (d + 1) = k + d + 1 by omega]; omega
  rw [List.pairwise_iff_getElem]
  intro i j hi hj hij
  have := step (j - i) i (by omega)
  rw [show i + (j - i) = j by omega] at this
  unfold tS at this
  simpa [List.getD_eq_getElem?_getD, hi, hj] using this
theorem pairwise_rows {S : List Spd} (hb : ∀ y ∈ S, 0 ≤ y.1 ∧ y.1 ≤ 1099511627776 ∧ 1 ≤ y.2 ∧ y.2 ≤ 1073741824) (hp : S.Pairwise (fun x y => x.1 ≤ y.1)) : ∀ k, k < S.length → RowOK S k := fun k hk => by
  obtain ⟨h1, h2, h3, h4⟩ := hb _ (getD_mem hk)
  refine ⟨h1, h2, fun h0 => ?_, h3, h4⟩
  have := List.pairwise_iff_getElem.1 hp (k - 1) k (by omega) hk (by omega)
  unfold tS
  simpa [List.getD_eq_getElem?_getD, hk, show k - 1 < S.length by omega] using this
theorem BudOK.filter {P A : Int} {S : List Spd} (h : BudOK P A S) (p : Spd → Bool) : BudOK P A (S.filter p) := by
  obtain ⟨⟨h1, h2, h3, h4, h5⟩, hr, hu⟩ := h
  have hb : ∀ y ∈ S, 0 ≤ y.1 ∧ y.1 ≤ 1099511627776 ∧ 1 ≤ y.2 ∧ y.2 ≤ 1073741824 := fun y hy => by
    obtain ⟨k, hk, rfl⟩ := mem_getD hy
    have := hr k hk
    exact ⟨this.1, this.2.1, this.2.2.2.1, this.2.2.2.2⟩
  refine ⟨⟨h1, h2, h3, h4, Nat.le_trans (List.length_filter_le _ _) h5⟩, pairwise_rows (fun y hy => hb y (List.mem_filter.1 hy).1) ((rows_pairwise hr).filter p), fun k hk => ?_⟩
  obtain ⟨j, hj, e⟩ := mem_getD (List.mem_filter.1 (getD_mem hk)).1
  have h6 := hu j hj
  have e2 : tS (S.filter p) k = tS S j := by unfold tS; rw [e]
  rw [e2]
  exact Int.le_trans (sumT_filter_le (fun y hy => by have := (hb y hy).2.2.1; omega) _ p) h6
theorem left_cleaned {P A t k : Int} (S : List Spd) (hP : 1 ≤ P) (hk : t ≤ k) : leftV P A (S.filter (keepC P t)) k = leftV P A S k := by
  unfold leftV used
  rw [sumT_filter_eq (fun y _ hy => ?_)]
  unfold keepC at hy
  unfold perT
  rw [decide_eq_false_iff_not] at hy ⊢
  intro e
  have h1 : t / P ≤ k / P := Int.ediv_le_ediv (by omega) hk
  have h2 : y.1 / P < t / P := (Int.ediv_lt_iff_lt_mul (by omega)).2 (by omega)
  omega
end Go.Proofs.Ytmnkgfimdlhhiaa
