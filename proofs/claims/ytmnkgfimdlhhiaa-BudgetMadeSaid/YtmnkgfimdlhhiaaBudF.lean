/-
  Budgets: Spend, the program's and the document's.
-/
import Derived.Test.YtmnkgfimdlhhiaaBudE
namespace Go.Proofs.Ytmnkgfimdlhhiaa
open Go.RowKit

def TimeOK (S : List Spd) (t : Int) : Prop := 0 ≤ t ∧ t ≤ 1099511627776 ∧ (0 < S.length → tS S (S.length - 1) ≤ t)
noncomputable def spE (P A : Int) (S : List Spd) (t x : Int) : Int :=
  @ite _ (¬ BudOK P A S) (Classical.propDecidable _) 56 (@ite _ (¬ TimeOK S t) (Classical.propDecidable _) 16 (if ¬ (1 ≤ x ∧ x ≤ 1073741824) then 2 else if leftV P A S t < x then 56 else if 256 ≤ S.length then 3 else 0))
noncomputable def spS (P A : Int) (S : List Spd) (t x : Int) : List Spd := if spE P A S t x = 0 then S ++ [(t, x)] else S
theorem spE_bad {P A : Int} {S : List Spd} {t x : Int} (h : ¬ BudOK P A S) : 56 = spE P A S t x := by
  unfold spE; rw [@if_pos _ (Classical.propDecidable _) h]
theorem spE_time {P A : Int} {S : List Spd} {t x : Int} (h : BudOK P A S) (h2 : ¬ TimeOK S t) : 16 = spE P A S t x := by
  unfold spE; rw [@if_neg _ (Classical.propDecidable _) (fun hh => hh h), @if_pos _ (Classical.propDecidable _) h2]
theorem spE_later {P A : Int} {S : List Spd} {t x : Int} (h : BudOK P A S) (h2 : TimeOK S t) : spE P A S t x = if ¬ (1 ≤ x ∧ x ≤ 1073741824) then 2 else if leftV P A S t < x then 56 else if 256 ≤ S.length then 3 else 0 := by
  unfold spE; rw [@if_neg _ (Classical.propDecidable _) (fun hh => hh h), @if_neg _ (Classical.propDecidable _) (fun hh => hh h2)]
theorem spE_cost {P A : Int} {S : List Spd} {t x : Int} (h : BudOK P A S) (h2 : TimeOK S t) (h3 : ¬ (1 ≤ x ∧ x ≤ 1073741824)) : 2 = spE P A S t x := by
  rw [spE_later h h2, if_pos h3]
theorem spE_left {P A : Int} {S : List Spd} {t x : Int} (h : BudOK P A S) (h2 : TimeOK S t) (h3 : 1 ≤ x ∧ x ≤ 1073741824) (h4 : leftV P A S t < x) : 56 = spE P A S t x := by
  rw [spE_later h h2, if_neg (fun hh => hh h3), if_pos h4]
theorem spE_full {P A : Int} {S : List Spd} {t x : Int} (h : BudOK P A S) (h2 : TimeOK S t) (h3 : 1 ≤ x ∧ x ≤ 1073741824) (h4 : ¬ leftV P A S t < x) (h5 : 256 ≤ S.length) : 3 = spE P A S t x := by
  rw [spE_later h h2, if_neg (fun hh => hh h3), if_neg h4, if_pos h5]
theorem spE_good {P A : Int} {S : List Spd} {t x : Int} (h : BudOK P A S) (h2 : TimeOK S t) (h3 : 1 ≤ x ∧ x ≤ 1073741824) (h4 : ¬ leftV P A S t < x) (h5 : ¬ 256 ≤ S.length) : 0 = spE P A S t x := by
  rw [spE_later h h2, if_neg (fun hh => hh h3), if_neg h4, if_neg h5]
theorem spS_err {P A : Int} {S : List Spd} {t x E : Int} (h : E = spE P A S t x) (hE : E ≠ 0) : E = spE P A S t x ∧ S = spS P A S t x := ⟨h, by unfold spS; rw [if_neg (by rw [← h]; exact hE)]⟩
theorem spS_ok {P A : Int} {S : List Spd} {t x : Int} (h : 0 = spE P A S t x) : 0 = spE P A S t x ∧ S ++ [(t, x)] = spS P A S t x := ⟨h, by unfold spS; rw [if_pos h.symm]⟩

/-- The call returns the budget with the spends S, and the error E. -/
def SpendP (w : World) (P A : Int) (S : List Spd) (E : Int) (e : Ending) (w' : World) : Prop :=
  ∃ v, e = .returned (.tuple #[.agg #[.int .i64 P, .int .i64 A, v], .int .i64 E]) ∧ SpOwn w' w.heap.size v S ∧ Below w.heap.size w w'
theorem size_alloc2 (w : World) (a b : Obj) : ((w.alloc a).alloc b).heap.size = w.heap.size + 2 := by simp
/-- The budget in its box, the result's cell, the call's own spends. -/
structure St (w wr : World) (P A : Int) (v : Value) (S : List Spd) : Prop where
  box : BudCell wr w.heap.size P A v
  res : BudCell wr (w.heap.size + 1) 0 0 (.slice none 0 0)
  own : SpOwn wr (w.heap.size + 2) v S
  below : Below w.heap.size w wr
  size : w.heap.size + 2 ≤ wr.heap.size
theorem St.later {w wr w' : World} {P A : Int} {v : Value} {S : List Spd} (h : St w wr P A v S) (hb : Below wr.heap.size wr w') : St w w' P A v S :=
  ⟨h.box.below hb, h.res.below hb, h.own.below hb, h.below.trans (hb.mono (Nat.le_trans (by omega) h.size)), Nat.le_trans h.size hb.size⟩
theorem St.done {w wr : World} {P A : Int} {v : Value} {S : List Spd} (h : St w wr P A v S) :
    BudCell (((wr.setCell ⟨w.heap.size + 1, 0, none⟩ (.int .i64 P)).setCell ⟨w.heap.size + 1, 1, none⟩ (.int .i64 A)).setCell ⟨w.heap.size + 1, 2, none⟩ v) (w.heap.size + 1) P A v ∧
    SpOwn (((wr.setCell ⟨w.heap.size + 1, 0, none⟩ (.int .i64 P)).setCell ⟨w.heap.size + 1, 1, none⟩ (.int .i64 A)).setCell ⟨w.heap.size + 1, 2, none⟩ v) w.heap.size v S ∧
    Below w.heap.size w (((wr.setCell ⟨w.heap.size + 1, 0, none⟩ (.int .i64 P)).setCell ⟨w.heap.size + 1, 1, none⟩ (.int .i64 A)).setCell ⟨w.heap.size + 1, 2, none⟩ v) :=
  ⟨((h.res.set0 P).set1 A).set2 v, (((h.own.set_ _ _ (by simp)).set_ _ _ (by simp)).set_ _ _ (by simp)).mono (by omega),
    below_set (below_set (below_set h.below _ _ (by simp)) _ _ (by simp)) _ _ (by simp)⟩
theorem SpendP.mk {w w' : World} {P A : Int} {v : Value} {S S' : List Spd} {E E' : Int} (h : E = E' ∧ S = S') (hd : SpOwn w' w.heap.size v S ∧ Below w.heap.size w w') : SpendP w P A S' E' (.returned (.tuple #[.agg #[.int .i64 P, .int .i64 A, v], .int .i64 E])) w' := by
  obtain ⟨rfl, rfl⟩ := h
  exact ⟨v, rfl, hd.1, hd.2⟩
theorem St.start {w w1 : World} {P A : Int} {v v' : Value} {S : List Spd} (hb : Below ((w.alloc (.cells #[.int .i64 P, .int .i64 A, v] 24)).alloc (.cells #[.int .i64 0, .int .i64 0, .slice none 0 0] 24)).heap.size ((w.alloc (.cells #[.int .i64 P, .int .i64 A, v] 24)).alloc (.cells #[.int .i64 0, .int .i64 0, .slice none 0 0] 24)) w1)
    (hown : SpOwn w1 ((w.alloc (.cells #[.int .i64 P, .int .i64 A, v] 24)).alloc (.cells #[.int .i64 0, .int .i64 0, .slice none 0 0] 24)).heap.size v' S) :
    (BudCell w1 w.heap.size P A v ∧ BudCell w1 (w.heap.size + 1) 0 0 (.slice none 0 0)) ∧ St w (w1.setCell ⟨w.heap.size, 2, none⟩ v') P A v' S ∧ St w (((w1.setCell ⟨w.heap.size, 0, none⟩ (.int .i64 P)).setCell ⟨w.heap.size, 1, none⟩ (.int .i64 A)).setCell ⟨w.heap.size, 2, none⟩ v') P A v' S := by
  have hs := hb.size
  simp only [size_alloc2] at hs hown
  have h1 : BudCell w1 w.heap.size P A v := ((BudCell.new _ _ _ rfl).alloc _).below hb
  have h2 : BudCell w1 (w.heap.size + 1) 0 0 (.slice none 0 0) := (BudCell.new _ _ _ (by simp)).below hb
  have h3 : Below w.heap.size w w1 := below_of_alloc (below_of_alloc (hb.mono (by simp; omega)) (by simp)) (Nat.le_refl _)
  refine ⟨⟨h1, h2⟩, ⟨h1.set2 _, h2.other _ _ (by simp), hown.set_ _ _ (by simp), below_set h3 _ _ (by simp), by simpa [World.setCell] using hs⟩, ?_⟩
  exact ⟨((h1.set0 P).set1 A).set2 _, ((h2.other _ _ (by simp)).other _ _ (by simp)).other _ _ (by simp), ((hown.set_ _ _ (by simp)).set_ _ _ (by simp)).set_ _ _ (by simp), below_set (below_set (below_set h3 _ _ (by simp)) _ _ (by simp)) _ _ (by simp), by simpa [World.setCell] using hs⟩

theorem one_at (w : World) (t x : Int) : SpAt (w.alloc (.cells #[.int .i64 t, .int .i64 x] 33)) (some ⟨w.heap.size, 0, none⟩) [(t, x)] := fun k hk => by
  have hk : k = 0 := by simpa using hk
  subst hk
  obtain ⟨h1, h2⟩ := pair_cells w t x
  exact ⟨_, _, rfl, by simp, h1, h2⟩
theorem St.appended {w wr w' : World} {P A : Int} {v v' : Value} {S S' : List Spd} {o : Obj} (h : St w wr P A v S) (hg : (wr.alloc o).grownBy w' v.ownBlock) (hown : SpOwn w' (w.heap.size + 2) v' S') :
    BudCell w' w.heap.size P A v ∧ BudCell w' (w.heap.size + 1) 0 0 (.slice none 0 0) ∧ St w (w'.setCell ⟨w.heap.size, 2, none⟩ v') P A v' S' := by
  have hsz := h.size
  have hk : ∀ k, k < w.heap.size + 2 → w'.heap[k]? = wr.heap[k]? := fun k hk => (hg.block k (by simp; omega) (fun e => by have := (h.own.lt k e.symm).1; omega)).trans (heap_alloc_old wr o (by omega))
  have h1 : BudCell w' w.heap.size P A v := (hk _ (by omega)).trans h.box
  have h2 : BudCell w' (w.heap.size + 1) 0 0 (.slice none 0 0) := (hk _ (by omega)).trans h.res
  have h3 : Below w.heap.size w w' := (h.below.alloc (by omega) o).grown hg (by simp; omega) (fun k e => by have := (h.own.lt k e).1; omega)
  have hs := hg.size
  simp at hs
  exact ⟨h1, h2, h1.set2 _, h2.other _ _ (by simp), hown.set_ _ _ (by simp), below_set h3 _ _ (by simp), by simp [World.setCell]; omega⟩

set_option maxRecDepth 100000 in
set_option maxHeartbeats 4000000 in
theorem spend_any (P A : Int) (B : Option Addr) (S : List Spd) (c : Nat) (t x : Int) (w : World) (hS : SpAt w B S) (hA : ∀ a, B = some a → a.spot = none ∨ S.length = 0) (hN : B = none → S.length = 0 ∧ c = 0) (hl : S.length ≤ 100000) (ht : t ≤ 2199023255552) :
    Calls Try.prog 19 #[.agg #[.int .i64 P, .int .i64 A, .slice B S.length c], .int .i64 t, .int .i64 x] w (SpendP w P A (spS P A S t x) (spE P A S t x)) := by
  have HS := Lib.hid hS
  clear hS
  go_enter Try.func19, Try.ntmps19
  go_wp2_with fail
  refine (clone_any B S c _ ((HS.out.alloc _).alloc _) hA hN hl).mono ?_
  rintro e w1 ⟨v, rfl, hown, hb⟩
  obtain ⟨C, c', rfl, -, -, -⟩ := hown.at_
  obtain ⟨⟨hX, hY⟩, hSt, -⟩ := St.start hb hown
  have x0 := hX.c0
  have x1 := hX.c1
  have f0 := hX.frozen 0
  have f1 := hX.frozen 1
  have f2 := hX.frozen 2
  have x2 := hX.c2
  clear hX hY hb hown hA hN HS
  go_wp2_with fail
  clear x0 x1 x2 f0 f1 f2
  obtain ⟨C', c'', ec, hC, -, -⟩ := hSt.own.at_
  injection ec with ec1 ec2 ec3
  subst ec1; subst ec3
  refine ret_below (check_any P A C S c' _ hC hl) fun w3 hb3 => ?_
  have hSt3 := hSt.later hb3
  clear hSt hb3 hC
  have x0 := hSt3.box.c0
  have x1 := hSt3.box.c1
  have x2 := hSt3.box.c2
  have y0 := hSt3.res.c0
  have y1 := hSt3.res.c1
  have y2 := hSt3.res.c2
  have f0 := hSt3.res.frozen 0
  have f1 := hSt3.res.frozen 1
  have f2 := hSt3.res.frozen 2
  have hs3 := hSt3.size
  have HST := Lib.hid hSt3
  clear hSt3
  by_cases hok : BudOK P A S
  case neg =>
    have HV := Lib.hid (spS_err (spE_bad (t := t) (x := x) hok) (by omega))
    rw [← budE_bad hok]
    clear hok
    go_wp2_with fail
    obtain ⟨d1, d2⟩ := HST.out.done
    exact bodyPost_ret (results_bud2 rfl _ _ (w.heap.size + 1) rfl d1) rfl (SpendP.mk HV.out d2)
  case pos =>
  have HOK := Lib.hid hok
  rw [budE_ok hok]
  clear hok
  by_cases g0 : 0 ≤ t ∧ t ≤ 1099511627776
  case neg =>
    have HV := Lib.hid (spS_err (spE_time (t := t) (x := x) HOK.out (fun h => g0 ⟨h.1, h.2.1⟩)) (by omega))
    have HT := Lib.hid g0
    clear g0
    go_wp2_with fail
    refine ret_pure (in_no t 0 1099511627776 HT.out _) ?_
    go_wp2_with fail
    obtain ⟨d1, d2⟩ := HST.out.done
    exact bodyPost_ret (results_bud2 rfl _ _ (w.heap.size + 1) rfl d1) rfl (SpendP.mk HV.out d2)
  case pos =>
  have HT := Lib.hid g0
  by_cases h0 : S.length = 0
  · have n0 : ¬ (0 : Int) < (S.length : Int) := by omega
    have HH0 := Lib.hid h0
    clear h0
    have HTO := Lib.hid (show TimeOK S t from ⟨HT.out.1, HT.out.2, fun h => absurd h (by have := HH0.out; omega)⟩)
    by_cases hx1 : 1 ≤ x ∧ x ≤ 1073741824
    case neg =>
      have HV := Lib.hid (spS_err (spE_cost (t := t) (x := x) HOK.out HTO.out hx1) (by omega))
      have HX := Lib.hid hx1
      clear hx1
      go_wp2_with fail
      refine ret_pure (in_yes t 0 1099511627776 HT.out _) ?_
      go_wp2_with fail
      refine ret_pure (in_no x 1 1073741824 HX.out _) ?_
      go_wp2_with fail
      obtain ⟨d1, d2⟩ := HST.out.done
      exact bodyPost_ret (results_bud2 rfl _ _ (w.heap.size + 1) rfl d1) rfl (SpendP.mk HV.out d2)
    case pos =>
    have HX := Lib.hid hx1
    have HC1 := Lib.hid (RowOK.cheap HOK.out.2.1)
    have HTI := Lib.hid (RowOK.times HOK.out.2.1)
    have hp : 1 ≤ P ∧ P ≤ 1099511627776 := ⟨HOK.out.1.1, HOK.out.1.2.1⟩
    have ha : 0 ≤ A ∧ A ≤ 1073741824 := ⟨HOK.out.1.2.2.1, HOK.out.1.2.2.2.1⟩
    have HPP := Lib.hid hp
    have HAA := Lib.hid ha
    clear hp ha
    go_wp2_with fail
    refine ret_pure (in_yes t 0 1099511627776 HT.out _) ?_
    go_wp2_with fail
    refine ret_pure (in_yes x 1 1073741824 HX.out _) ?_
    go_wp2_with fail
    obtain ⟨C2, c2, ec, hC, -, -⟩ := HST.out.own.at_
    injection ec with ec1 ec2 ec3
    subst ec1; subst ec3
    refine ret_below (left_any P A C S c' t _ HPP.out HAA.out hC HTI.out HC1.out hl ht) fun w4 hb4 => ?_
    have hSt3 := HST.out.later hb4
    clear HST x0 x1 x2 y0 y1 y2 f0 f1 f2 hs3 hb4 hC 
    have x0 := hSt3.box.c0
    have x1 := hSt3.box.c1
    have x2 := hSt3.box.c2
    have y0 := hSt3.res.c0
    have y1 := hSt3.res.c1
    have y2 := hSt3.res.c2
    have f0 := hSt3.res.frozen 0
    have f1 := hSt3.res.frozen 1
    have f2 := hSt3.res.frozen 2
    have hs3 := hSt3.size
    have HST := Lib.hid hSt3
    clear hSt3
    by_cases hlx : leftV P A S t < x
    · have HV := Lib.hid (spS_err (spE_left (t := t) (x := x) HOK.out HTO.out HX.out hlx) (by omega))
      go_wp2_with fail
      obtain ⟨d1, d2⟩ := HST.out.done
      exact bodyPost_ret (results_bud2 rfl _ _ (w.heap.size + 1) rfl d1) rfl (SpendP.mk HV.out d2)
    · by_cases h256 : 256 ≤ S.length
      · have HV := Lib.hid (spS_err (spE_full (t := t) (x := x) HOK.out HTO.out HX.out hlx h256) (by omega))
        have h256e : ((S.length : Int) == 256) = true := by have := HOK.out.1.2.2.2.2; simp; omega
        go_wp2_with fail
        all_goals
          obtain ⟨d1, d2⟩ := HST.out.done
          exact bodyPost_ret (results_bud2 rfl _ _ (w.heap.size + 1) rfl d1) rfl (SpendP.mk HV.out d2)
      · have HV := Lib.hid (spS_ok (spE_good (t := t) (x := x) HOK.out HTO.out HX.out hlx h256))
        have h256e : ((S.length : Int) == 256) = false := by simp; omega
        have HOWN := Lib.hid HST.out.own
        have g0' := HST.out.box.frozen 2
        go_wp2_with (first | (at_builtin; refine app_spends rfl (.tmp 58) (.tmp 62) rfl (base := w.heap.size + 2) (S := S) (T := [(t, x)]) (v := .slice C S.length c') (b := w4.heap.size) (off := 0) (c := 1) rfl ((HOWN.out).below (below_alloc _ _)) rfl (one_at _ _ _) (by simp; omega) (by simp; omega) ?_; intro v5 w5 hown5 hg5 hb5; obtain ⟨C5, c5, ev, -, -, -⟩ := hown5.at_; rw [show (S ++ [(t, x)]).length = S.length + 1 by simp] at ev; subst ev; have hSt5 := HST.out.appended hg5 hown5; have z0 := hSt5.1.c0; have z1 := hSt5.1.c1; have z2 := hSt5.1.c2; have z3 := hSt5.1.frozen 2; have z4 := hSt5.2.1.frozen 0; have z5 := hSt5.2.1.frozen 1; have z6 := hSt5.2.1.frozen 2; have z7 := hSt5.2.1.c0; have z8 := hSt5.2.1.c1; have z9 := hSt5.2.1.c2; have HST5 := Lib.hid hSt5.2.2; clear hSt5 hg5 hown5 hb5) | fail)
        obtain ⟨d1, d2⟩ := HST5.out.done
        exact bodyPost_ret (results_bud2 rfl _ _ (w.heap.size + 1) rfl d1) rfl (SpendP.mk HV.out d2)
  · obtain ⟨l, e1, hl1, hl2⟩ : ∃ l : Nat, (S.length : Int) - 1 = (l : Int) ∧ l < S.length ∧ S.length - 1 = l := ⟨S.length - 1, by omega, by omega, rfl⟩
    have HL2 := Lib.hid hl2
    have n0 : (0 : Int) < (S.length : Int) := by omega
    clear hl2 h0
    obtain ⟨C9, c9, ec, hC, -, -⟩ := HST.out.own.at_
    injection ec with ec1 ec2 ec3
    subst ec1; subst ec3
    obtain ⟨b, off, rfl, hbl, q1, -⟩ := hC l hl1
    clear hC
    by_cases hlast : t < tS S l
    · have HV := Lib.hid (spS_err (spE_time (t := t) (x := x) HOK.out (fun h => by have h2 := h.2.2 (by omega); rw [HL2.out] at h2; omega)) (by omega))
      go_wp2_with fail
      refine ret_pure (in_yes t 0 1099511627776 HT.out _) ?_
      go_wp2_with fail
      obtain ⟨d1, d2⟩ := HST.out.done
      exact bodyPost_ret (results_bud2 rfl _ _ (w.heap.size + 1) rfl d1) rfl (SpendP.mk HV.out d2)
    · skip
      have HTO := Lib.hid (show TimeOK S t from ⟨HT.out.1, HT.out.2, fun _ => by rw [HL2.out]; omega⟩)
      by_cases hx1 : 1 ≤ x ∧ x ≤ 1073741824
      case neg =>
        have HV := Lib.hid (spS_err (spE_cost (t := t) (x := x) HOK.out HTO.out hx1) (by omega))
        have HX := Lib.hid hx1
        clear hx1
        go_wp2_with fail
        refine ret_pure (in_yes t 0 1099511627776 HT.out _) ?_
        go_wp2_with fail
        refine ret_pure (in_no x 1 1073741824 HX.out _) ?_
        go_wp2_with fail
        obtain ⟨d1, d2⟩ := HST.out.done
        exact bodyPost_ret (results_bud2 rfl _ _ (w.heap.size + 1) rfl d1) rfl (SpendP.mk HV.out d2)
      case pos =>
      have HX := Lib.hid hx1
      have HC1 := Lib.hid (RowOK.cheap HOK.out.2.1)
      have HTI := Lib.hid (RowOK.times HOK.out.2.1)
      have hp : 1 ≤ P ∧ P ≤ 1099511627776 := ⟨HOK.out.1.1, HOK.out.1.2.1⟩
      have ha : 0 ≤ A ∧ A ≤ 1073741824 := ⟨HOK.out.1.2.2.1, HOK.out.1.2.2.2.1⟩
      have HPP := Lib.hid hp
      have HAA := Lib.hid ha
      clear hp ha
      go_wp2_with fail
      refine ret_pure (in_yes t 0 1099511627776 HT.out _) ?_
      go_wp2_with fail
      refine ret_pure (in_yes x 1 1073741824 HX.out _) ?_
      go_wp2_with fail
      obtain ⟨C2, c2, ec, hC, -, -⟩ := HST.out.own.at_
      injection ec with ec1 ec2 ec3
      subst ec1; subst ec3
      refine ret_below (left_any P A (some ⟨b, off, none⟩) S c' t _ HPP.out HAA.out hC HTI.out HC1.out hl ht) fun w4 hb4 => ?_
      have hSt3 := HST.out.later hb4
      clear HST x0 x1 x2 y0 y1 y2 f0 f1 f2 hs3 hb4 hC q1
      have x0 := hSt3.box.c0
      have x1 := hSt3.box.c1
      have x2 := hSt3.box.c2
      have y0 := hSt3.res.c0
      have y1 := hSt3.res.c1
      have y2 := hSt3.res.c2
      have f0 := hSt3.res.frozen 0
      have f1 := hSt3.res.frozen 1
      have f2 := hSt3.res.frozen 2
      have hs3 := hSt3.size
      have HST := Lib.hid hSt3
      clear hSt3
      by_cases hlx : leftV P A S t < x
      · have HV := Lib.hid (spS_err (spE_left (t := t) (x := x) HOK.out HTO.out HX.out hlx) (by omega))
        go_wp2_with fail
        obtain ⟨d1, d2⟩ := HST.out.done
        exact bodyPost_ret (results_bud2 rfl _ _ (w.heap.size + 1) rfl d1) rfl (SpendP.mk HV.out d2)
      · by_cases h256 : 256 ≤ S.length
        · have HV := Lib.hid (spS_err (spE_full (t := t) (x := x) HOK.out HTO.out HX.out hlx h256) (by omega))
          have h256e : ((S.length : Int) == 256) = true := by have := HOK.out.1.2.2.2.2; simp; omega
          go_wp2_with fail
          all_goals
            obtain ⟨d1, d2⟩ := HST.out.done
            exact bodyPost_ret (results_bud2 rfl _ _ (w.heap.size + 1) rfl d1) rfl (SpendP.mk HV.out d2)
        · have HV := Lib.hid (spS_ok (spE_good (t := t) (x := x) HOK.out HTO.out HX.out hlx h256))
          have h256e : ((S.length : Int) == 256) = false := by simp; omega
          have HOWN := Lib.hid HST.out.own
          have g0' := HST.out.box.frozen 2
          go_wp2_with (first | (at_builtin; refine app_spends rfl (.tmp 58) (.tmp 62) rfl (base := w.heap.size + 2) (S := S) (T := [(t, x)]) (v := .slice (some ⟨b, off, none⟩) S.length c') (b := w4.heap.size) (off := 0) (c := 1) rfl ((HOWN.out).below (below_alloc _ _)) rfl (one_at _ _ _) (by simp; omega) (by simp; omega) ?_; intro v5 w5 hown5 hg5 hb5; obtain ⟨C5, c5, ev, -, -, -⟩ := hown5.at_; rw [show (S ++ [(t, x)]).length = S.length + 1 by simp] at ev; subst ev; have hSt5 := HST.out.appended hg5 hown5; have z0 := hSt5.1.c0; have z1 := hSt5.1.c1; have z2 := hSt5.1.c2; have z3 := hSt5.1.frozen 2; have z4 := hSt5.2.1.frozen 0; have z5 := hSt5.2.1.frozen 1; have z6 := hSt5.2.1.frozen 2; have z7 := hSt5.2.1.c0; have z8 := hSt5.2.1.c1; have z9 := hSt5.2.1.c2; have HST5 := Lib.hid hSt5.2.2; clear hSt5 hg5 hown5 hb5) | fail)
          obtain ⟨d1, d2⟩ := HST5.out.done
          exact bodyPost_ret (results_bud2 rfl _ _ (w.heap.size + 1) rfl d1) rfl (SpendP.mk HV.out d2)

set_option maxRecDepth 100000 in
set_option maxHeartbeats 4000000 in
theorem refSpend_any (P A : Int) (B : Option Addr) (S : List Spd) (c : Nat) (t x : Int) (w : World) (hS : SpAt w B S) (hA : ∀ a, B = some a → a.spot = none ∨ S.length = 0) (hN : B = none → S.length = 0 ∧ c = 0) (hl : S.length ≤ 100000) (ht : t ≤ 2199023255552) :
    Calls Try.prog 41 #[.agg #[.int .i64 P, .int .i64 A, .slice B S.length c], .int .i64 t, .int .i64 x] w (SpendP w P A (spS P A S t x) (spE P A S t x)) := by
  have HS := Lib.hid hS
  clear hS
  go_enter Try.func41, Try.ntmps41
  go_wp2_with fail
  refine (copy_any P A B S c _ ((HS.out.alloc _).alloc _) hA hN hl).mono ?_
  rintro e w1 ⟨v, rfl, hown, hb⟩
  obtain ⟨C, c', rfl, -, -, -⟩ := hown.at_
  obtain ⟨⟨hX, hY⟩, -, hSt⟩ := St.start hb hown
  have x0 := hX.c0
  have x1 := hX.c1
  have f0 := hX.frozen 0
  have f1 := hX.frozen 1
  have f2 := hX.frozen 2
  have x2 := hX.c2
  clear hX hY hb hown hA hN HS
  go_wp2_with fail
  clear x0 x1 x2 f0 f1 f2
  obtain ⟨C', c'', ec, hC, -, -⟩ := hSt.own.at_
  injection ec with ec1 ec2 ec3
  subst ec1; subst ec3
  refine ret_below (refCheck_any P A C S c' _ hC hl) fun w3 hb3 => ?_
  have hSt3 := hSt.later hb3
  clear hSt hb3 hC
  have x0 := hSt3.box.c0
  have x1 := hSt3.box.c1
  have x2 := hSt3.box.c2
  have y0 := hSt3.res.c0
  have y1 := hSt3.res.c1
  have y2 := hSt3.res.c2
  have f0 := hSt3.res.frozen 0
  have f1 := hSt3.res.frozen 1
  have f2 := hSt3.res.frozen 2
  have hs3 := hSt3.size
  have HST := Lib.hid hSt3
  clear hSt3
  by_cases hok : BudOK P A S
  case neg =>
    have HV := Lib.hid (spS_err (spE_bad (t := t) (x := x) hok) (by omega))
    rw [← budE_bad hok]
    clear hok
    go_wp2_with fail
    obtain ⟨d1, d2⟩ := HST.out.done
    exact bodyPost_ret (results_bud2 rfl _ _ (w.heap.size + 1) rfl d1) rfl (SpendP.mk HV.out d2)
  case pos =>
  have HOK := Lib.hid hok
  rw [budE_ok hok]
  clear hok
  by_cases g0 : t < 0
  · have HV := Lib.hid (spS_err (spE_time (t := t) (x := x) HOK.out (fun h => by have := h.1; omega)) (by omega))
    go_wp2_with fail
    obtain ⟨d1, d2⟩ := HST.out.done
    exact bodyPost_ret (results_bud2 rfl _ _ (w.heap.size + 1) rfl d1) rfl (SpendP.mk HV.out d2)
  by_cases g1 : 1099511627776 < t
  · have HV := Lib.hid (spS_err (spE_time (t := t) (x := x) HOK.out (fun h => by have := h.2.1; omega)) (by omega))
    go_wp2_with fail
    obtain ⟨d1, d2⟩ := HST.out.done
    exact bodyPost_ret (results_bud2 rfl _ _ (w.heap.size + 1) rfl d1) rfl (SpendP.mk HV.out d2)
  have HT := Lib.hid (show 0 ≤ t ∧ t ≤ 1099511627776 by omega)
  by_cases h0 : S.length = 0
  · have n0 : ¬ (0 : Int) < (S.length : Int) := by omega
    have HH0 := Lib.hid h0
    clear h0
    have HTO := Lib.hid (show TimeOK S t from ⟨HT.out.1, HT.out.2, fun h => absurd h (by have := HH0.out; omega)⟩)
    by_cases hx1 : x < 1
    · have HV := Lib.hid (spS_err (spE_cost (t := t) (x := x) HOK.out HTO.out (fun h => by omega)) (by omega))
      go_wp2_with fail
      obtain ⟨d1, d2⟩ := HST.out.done
      exact bodyPost_ret (results_bud2 rfl _ _ (w.heap.size + 1) rfl d1) rfl (SpendP.mk HV.out d2)
    by_cases hx2 : 1073741824 < x
    · have HV := Lib.hid (spS_err (spE_cost (t := t) (x := x) HOK.out HTO.out (fun h => by omega)) (by omega))
      go_wp2_with fail
      obtain ⟨d1, d2⟩ := HST.out.done
      exact bodyPost_ret (results_bud2 rfl _ _ (w.heap.size + 1) rfl d1) rfl (SpendP.mk HV.out d2)
    have HX := Lib.hid (show 1 ≤ x ∧ x ≤ 1073741824 by omega)
    have HC1 := Lib.hid (RowOK.cheap HOK.out.2.1)
    have HTI := Lib.hid (RowOK.times HOK.out.2.1)
    have hp : 1 ≤ P ∧ P ≤ 1099511627776 := ⟨HOK.out.1.1, HOK.out.1.2.1⟩
    have ha : 0 ≤ A ∧ A ≤ 1073741824 := ⟨HOK.out.1.2.2.1, HOK.out.1.2.2.2.1⟩
    have HPP := Lib.hid hp
    have HAA := Lib.hid ha
    clear hp ha
    go_wp2_with fail
    obtain ⟨C2, c2, ec, hC, -, -⟩ := HST.out.own.at_
    injection ec with ec1 ec2 ec3
    subst ec1; subst ec3
    refine ret_below (refLeft_any P A C S c' t _ HPP.out HAA.out hC HC1.out hl ht) fun w4 hb4 => ?_
    have hSt3 := HST.out.later hb4
    clear HST x0 x1 x2 y0 y1 y2 f0 f1 f2 hs3 hb4 hC 
    have x0 := hSt3.box.c0
    have x1 := hSt3.box.c1
    have x2 := hSt3.box.c2
    have y0 := hSt3.res.c0
    have y1 := hSt3.res.c1
    have y2 := hSt3.res.c2
    have f0 := hSt3.res.frozen 0
    have f1 := hSt3.res.frozen 1
    have f2 := hSt3.res.frozen 2
    have hs3 := hSt3.size
    have HST := Lib.hid hSt3
    clear hSt3
    by_cases hlx : leftV P A S t < x
    · have HV := Lib.hid (spS_err (spE_left (t := t) (x := x) HOK.out HTO.out HX.out hlx) (by omega))
      go_wp2_with fail
      obtain ⟨d1, d2⟩ := HST.out.done
      exact bodyPost_ret (results_bud2 rfl _ _ (w.heap.size + 1) rfl d1) rfl (SpendP.mk HV.out d2)
    · by_cases h256 : 256 ≤ S.length
      · have HV := Lib.hid (spS_err (spE_full (t := t) (x := x) HOK.out HTO.out HX.out hlx h256) (by omega))
        have h256e : ((S.length : Int) == 256) = true := by have := HOK.out.1.2.2.2.2; simp; omega
        go_wp2_with fail
        all_goals
          obtain ⟨d1, d2⟩ := HST.out.done
          exact bodyPost_ret (results_bud2 rfl _ _ (w.heap.size + 1) rfl d1) rfl (SpendP.mk HV.out d2)
      · have HV := Lib.hid (spS_ok (spE_good (t := t) (x := x) HOK.out HTO.out HX.out hlx h256))
        have h256e : ((S.length : Int) == 256) = false := by simp; omega
        have HOWN := Lib.hid HST.out.own
        have g0' := HST.out.box.frozen 2
        go_wp2_with (first | (at_builtin; refine app_spends rfl (.tmp 62) (.tmp 66) rfl (base := w.heap.size + 2) (S := S) (T := [(t, x)]) (v := .slice C S.length c') (b := w4.heap.size) (off := 0) (c := 1) rfl ((HOWN.out).below (below_alloc _ _)) rfl (one_at _ _ _) (by simp; omega) (by simp; omega) ?_; intro v5 w5 hown5 hg5 hb5; obtain ⟨C5, c5, ev, -, -, -⟩ := hown5.at_; rw [show (S ++ [(t, x)]).length = S.length + 1 by simp] at ev; subst ev; have hSt5 := HST.out.appended hg5 hown5; have z0 := hSt5.1.c0; have z1 := hSt5.1.c1; have z2 := hSt5.1.c2; have z3 := hSt5.1.frozen 2; have z4 := hSt5.2.1.frozen 0; have z5 := hSt5.2.1.frozen 1; have z6 := hSt5.2.1.frozen 2; have z7 := hSt5.2.1.c0; have z8 := hSt5.2.1.c1; have z9 := hSt5.2.1.c2; have HST5 := Lib.hid hSt5.2.2; clear hSt5 hg5 hown5 hb5) | fail)
        obtain ⟨d1, d2⟩ := HST5.out.done
        exact bodyPost_ret (results_bud2 rfl _ _ (w.heap.size + 1) rfl d1) rfl (SpendP.mk HV.out d2)
  · obtain ⟨l, e1, hl1, hl2⟩ : ∃ l : Nat, (S.length : Int) - 1 = (l : Int) ∧ l < S.length ∧ S.length - 1 = l := ⟨S.length - 1, by omega, by omega, rfl⟩
    have HL2 := Lib.hid hl2
    have n0 : (0 : Int) < (S.length : Int) := by omega
    clear hl2 h0
    obtain ⟨C9, c9, ec, hC, -, -⟩ := HST.out.own.at_
    injection ec with ec1 ec2 ec3
    subst ec1; subst ec3
    obtain ⟨b, off, rfl, hbl, q1, -⟩ := hC l hl1
    clear hC
    by_cases hlast : t < tS S l
    · have HV := Lib.hid (spS_err (spE_time (t := t) (x := x) HOK.out (fun h => by have h2 := h.2.2 (by omega); rw [HL2.out] at h2; omega)) (by omega))
      go_wp2_with fail
      obtain ⟨d1, d2⟩ := HST.out.done
      exact bodyPost_ret (results_bud2 rfl _ _ (w.heap.size + 1) rfl d1) rfl (SpendP.mk HV.out d2)
    · skip
      have HTO := Lib.hid (show TimeOK S t from ⟨HT.out.1, HT.out.2, fun _ => by rw [HL2.out]; omega⟩)
      by_cases hx1 : x < 1
      · have HV := Lib.hid (spS_err (spE_cost (t := t) (x := x) HOK.out HTO.out (fun h => by omega)) (by omega))
        go_wp2_with fail
        obtain ⟨d1, d2⟩ := HST.out.done
        exact bodyPost_ret (results_bud2 rfl _ _ (w.heap.size + 1) rfl d1) rfl (SpendP.mk HV.out d2)
      by_cases hx2 : 1073741824 < x
      · have HV := Lib.hid (spS_err (spE_cost (t := t) (x := x) HOK.out HTO.out (fun h => by omega)) (by omega))
        go_wp2_with fail
        obtain ⟨d1, d2⟩ := HST.out.done
        exact bodyPost_ret (results_bud2 rfl _ _ (w.heap.size + 1) rfl d1) rfl (SpendP.mk HV.out d2)
      have HX := Lib.hid (show 1 ≤ x ∧ x ≤ 1073741824 by omega)
      have HC1 := Lib.hid (RowOK.cheap HOK.out.2.1)
      have HTI := Lib.hid (RowOK.times HOK.out.2.1)
      have hp : 1 ≤ P ∧ P ≤ 1099511627776 := ⟨HOK.out.1.1, HOK.out.1.2.1⟩
      have ha : 0 ≤ A ∧ A ≤ 1073741824 := ⟨HOK.out.1.2.2.1, HOK.out.1.2.2.2.1⟩
      have HPP := Lib.hid hp
      have HAA := Lib.hid ha
      clear hp ha
      go_wp2_with fail
      obtain ⟨C2, c2, ec, hC, -, -⟩ := HST.out.own.at_
      injection ec with ec1 ec2 ec3
      subst ec1; subst ec3
      refine ret_below (refLeft_any P A (some ⟨b, off, none⟩) S c' t _ HPP.out HAA.out hC HC1.out hl ht) fun w4 hb4 => ?_
      have hSt3 := HST.out.later hb4
      clear HST x0 x1 x2 y0 y1 y2 f0 f1 f2 hs3 hb4 hC q1
      have x0 := hSt3.box.c0
      have x1 := hSt3.box.c1
      have x2 := hSt3.box.c2
      have y0 := hSt3.res.c0
      have y1 := hSt3.res.c1
      have y2 := hSt3.res.c2
      have f0 := hSt3.res.frozen 0
      have f1 := hSt3.res.frozen 1
      have f2 := hSt3.res.frozen 2
      have hs3 := hSt3.size
      have HST := Lib.hid hSt3
      clear hSt3
      by_cases hlx : leftV P A S t < x
      · have HV := Lib.hid (spS_err (spE_left (t := t) (x := x) HOK.out HTO.out HX.out hlx) (by omega))
        go_wp2_with fail
        obtain ⟨d1, d2⟩ := HST.out.done
        exact bodyPost_ret (results_bud2 rfl _ _ (w.heap.size + 1) rfl d1) rfl (SpendP.mk HV.out d2)
      · by_cases h256 : 256 ≤ S.length
        · have HV := Lib.hid (spS_err (spE_full (t := t) (x := x) HOK.out HTO.out HX.out hlx h256) (by omega))
          have h256e : ((S.length : Int) == 256) = true := by have := HOK.out.1.2.2.2.2; simp; omega
          go_wp2_with fail
          all_goals
            obtain ⟨d1, d2⟩ := HST.out.done
            exact bodyPost_ret (results_bud2 rfl _ _ (w.heap.size + 1) rfl d1) rfl (SpendP.mk HV.out d2)
        · have HV := Lib.hid (spS_ok (spE_good (t := t) (x := x) HOK.out HTO.out HX.out hlx h256))
          have h256e : ((S.length : Int) == 256) = false := by simp; omega
          have HOWN := Lib.hid HST.out.own
          have g0' := HST.out.box.frozen 2
          go_wp2_with (first | (at_builtin; refine app_spends rfl (.tmp 62) (.tmp 66) rfl (base := w.heap.size + 2) (S := S) (T := [(t, x)]) (v := .slice (some ⟨b, off, none⟩) S.length c') (b := w4.heap.size) (off := 0) (c := 1) rfl ((HOWN.out).below (below_alloc _ _)) rfl (one_at _ _ _) (by simp; omega) (by simp; omega) ?_; intro v5 w5 hown5 hg5 hb5; obtain ⟨C5, c5, ev, -, -, -⟩ := hown5.at_; rw [show (S ++ [(t, x)]).length = S.length + 1 by simp] at ev; subst ev; have hSt5 := HST.out.appended hg5 hown5; have z0 := hSt5.1.c0; have z1 := hSt5.1.c1; have z2 := hSt5.1.c2; have z3 := hSt5.1.frozen 2; have z4 := hSt5.2.1.frozen 0; have z5 := hSt5.2.1.frozen 1; have z6 := hSt5.2.1.frozen 2; have z7 := hSt5.2.1.c0; have z8 := hSt5.2.1.c1; have z9 := hSt5.2.1.c2; have HST5 := Lib.hid hSt5.2.2; clear hSt5 hg5 hown5 hb5) | fail)
          obtain ⟨d1, d2⟩ := HST5.out.done
          exact bodyPost_ret (results_bud2 rfl _ _ (w.heap.size + 1) rfl d1) rfl (SpendP.mk HV.out d2)
end Go.Proofs.Ytmnkgfimdlhhiaa
