/-
  Shares: which ones stand in a plan, which lists are good.
-/
import Derived.Test.YtkjpnhhkebbmdaaDoorShA
namespace Go.Proofs.YtkjpnhhkebbmdaaDoor
open Go.RowKit

/-! ### A share in a cell -/
abbrev shV (x : Int) (v : Value) : Value := .agg #[.int .i64 x, v]
def ShCell (w : World) (g : Nat) (x : Int) (v : Value) : Prop := w.heap[g]? = some (.cells #[.int .i64 x, v] 47 (0, 0))
theorem ShCell.c0 {w : World} {g : Nat} {x : Int} {v : Value} (H : ShCell w g x v) : w.cell? ⟨g, 0, none⟩ = some (.int .i64 x) := by rw [cell_of_row w g 0 _ _ (0, 0) H]; rfl
theorem ShCell.c1 {w : World} {g : Nat} {x : Int} {v : Value} (H : ShCell w g x v) : w.cell? ⟨g, 1, none⟩ = some v := by rw [cell_of_row w g 1 _ _ (0, 0) H]; rfl
theorem ShCell.frozen {w : World} {g : Nat} {x : Int} {v : Value} (H : ShCell w g x v) (j : Nat) : w.frozen? ⟨g, j, none⟩ = false := by unfold ShCell at H; simp [World.frozen?, H]
theorem ShCell.below {w w' : World} {g : Nat} {x : Int} {v : Value} (H : ShCell w g x v) (hb : Below w.heap.size w w') : ShCell w' g x v := (hb.block g (blk_lt H)).trans H
theorem ShCell.new {w : World} {i : Nat} (x : Int) (v : Value) (hi : i = w.heap.size) : ShCell (w.alloc (.cells #[.int .i64 x, v] 47)) i x v := by subst hi; exact heap_alloc_new w _
theorem ShCell.alloc {w : World} {i : Nat} {x : Int} {v : Value} (H : ShCell w i x v) (o : Obj) : ShCell (w.alloc o) i x v := H.below (below_alloc w o)
theorem ShCell.other {w : World} {i : Nat} {x : Int} {v : Value} (H : ShCell w i x v) (q : Addr) (u : Value) (hq : i ≠ q.block) : ShCell (w.setCell q u) i x v := (Below.heap_setCell w q u i hq).trans H
theorem ShCell.set1 {w : World} {g : Nat} {x : Int} {v : Value} (H : ShCell w g x v) (u : Value) : ShCell (w.setCell ⟨g, 1, none⟩ u) g x u := by
  unfold ShCell at H ⊢; simp [World.setCell, Array.getElem?_modify, H]
theorem ShCell.set0 {w : World} {g : Nat} {x : Int} {v : Value} (H : ShCell w g x v) (y : Int) : ShCell (w.setCell ⟨g, 0, none⟩ (.int .i64 y)) g y v := by
  unfold ShCell at H ⊢; simp [World.setCell, Array.getElem?_modify, H]

/-! ### Stands -/
def stB (p h : Int) (x : Int) (L : List Int) : Bool := decide (1 ≤ x) && decide (x ≤ h) && inside p L
theorem stB_lo {p h x : Int} {L : List Int} (H : ¬ 1 ≤ x) : false = stB p h x L := by unfold stB; rw [decide_eq_false H]; rfl
theorem stB_hi {p h x : Int} {L : List Int} (H : ¬ x ≤ h) : false = stB p h x L := by unfold stB; rw [decide_eq_false H, Bool.and_false]; rfl
theorem stB_in {p h x : Int} {L : List Int} (H : 1 ≤ x) (H2 : x ≤ h) : inside p L = stB p h x L := by unfold stB; rw [decide_eq_true H, decide_eq_true H2]; rfl
theorem stB_bd {p h x : Int} {L : List Int} (H : stB p h x L = true) : 1 ≤ x ∧ x ≤ h ∧ inside p L = true := by
  unfold stB at H; simp only [Bool.and_eq_true, decide_eq_true_eq] at H; exact ⟨H.1.1, H.1.2, H.2⟩

set_option maxRecDepth 100000 in
set_option maxHeartbeats 1000000 in
theorem stands_any (p n h x : Int) (B : Option Addr) (L : List Int) (c : Nat) (w : World) (hI : IntsAt w B L) (hl : L.length ≤ 1099511627776) :
    Calls Tryd.prog 59 #[planV p n h, shV x (.slice B L.length c)] w (RetB (.bool (stB p h x L)) w) := by
  have HI := Lib.hid hI
  clear hI
  by_cases h1 : 1 ≤ x
  · by_cases h2 : x ≤ h
    · have HV := Lib.hid (stB_in (p := p) (L := L) h1 h2)
      go_enter Tryd.func59, Tryd.ntmps59
      go_wp2_with fail
      refine ret_below (elements_plan p n h B L c _ ((HI.out.below (below_alloc _ _)).below (below_alloc _ _)) hl) ?_
      intro w1 hb1
      go_wp2_with fail
      go_ret
      exact RetB.bool HV.out (below_trans (below_trans (below_alloc _ _) (below_alloc _ _)) hb1)
    · have HV := Lib.hid (stB_hi (p := p) (L := L) h2)
      go_enter Tryd.func59, Tryd.ntmps59
      go_wp2_with fail
      go_ret
      exact RetB.bool HV.out (below_trans (below_alloc _ _) (below_alloc _ _))
  · have HV := Lib.hid (stB_lo (p := p) (h := h) (L := L) h1)
    go_enter Tryd.func59, Tryd.ntmps59
    go_wp2_with fail
    go_ret
    exact RetB.bool HV.out (below_trans (below_alloc _ _) (below_alloc _ _))

set_option maxRecDepth 100000 in
set_option maxHeartbeats 1000000 in
theorem refStands_any (p n h x : Int) (B : Option Addr) (L : List Int) (c : Nat) (w : World) (hv : primeV p = true) (hI : IntsAt w B L) (hl : L.length ≤ 1099511627776) :
    Calls Tryd.prog 61 #[planV p n h, shV x (.slice B L.length c)] w (RetB (.bool (stB p h x L)) w) := by
  have hc : ∀ W, IntsAt W B L → Calls Tryd.prog 47 #[.int .i64 p, .slice B L.length c] W (Ret (.bool (inside p L)) W) := fun W hW => by
    have := elems_ref B L c p W hW hl
    unfold elemsI at this
    rw [hv, Bool.and_true] at this
    exact this
  have HC := Lib.hid hc
  have HI := Lib.hid hI
  clear hI hv hc
  by_cases h1 : 1 ≤ x
  · by_cases h2 : x ≤ h
    · have HV := Lib.hid (stB_in (p := p) (L := L) h1 h2)
      go_enter Tryd.func61, Tryd.ntmps61
      go_wp2_with fail
      refine ret_pure (HC.out _ ((HI.out.below (below_alloc _ _)).below (below_alloc _ _))) ?_
      go_wp2_with fail
      go_ret
      exact RetB.bool HV.out (below_trans (below_alloc _ _) (below_alloc _ _))
    · have HV := Lib.hid (stB_hi (p := p) (L := L) h2)
      go_enter Tryd.func61, Tryd.ntmps61
      go_wp2_with fail
      go_ret
      exact RetB.bool HV.out (below_trans (below_alloc _ _) (below_alloc _ _))
  · have HV := Lib.hid (stB_lo (p := p) (h := h) (L := L) h1)
    go_enter Tryd.func61, Tryd.ntmps61
    go_wp2_with fail
    go_ret
    exact RetB.bool HV.out (below_trans (below_alloc _ _) (below_alloc _ _))

/-! ### Good -/
/-- What each share of a good list satisfies. -/
structure GdAt (p h : Int) (S : List Shr) (k : Nat) : Prop where
  st : stB p h (hS S k) (vS S k) = true
  len : (vS S k).length = (vS S 0).length
  few : (vS S k).length ≤ 2048
  new : ∀ j, j < k → hS S j ≠ hS S k
def GdP (p h : Int) (S : List Shr) : Prop := ∀ k, k < S.length → GdAt p h S k
noncomputable def gdB (p h : Int) (S : List Shr) : Bool := @decide (GdP p h S) (Classical.propDecidable _)
theorem gdB_no {p h : Int} {S : List Shr} (k : Nat) (hk : k < S.length) (H : ¬ GdAt p h S k) : false = gdB p h S := (@decide_eq_false _ (Classical.propDecidable _) (fun g => H (g k hk))).symm
theorem gdB_yes {p h : Int} {S : List Shr} (H : GdP p h S) : true = gdB p h S := (@decide_eq_true _ (Classical.propDecidable _) H).symm
theorem gdB_of {p h : Int} {S : List Shr} (H : gdB p h S = true) : GdP p h S := @of_decide_eq_true _ (Classical.propDecidable _) H
theorem gdB_of_not {p h : Int} {S : List Shr} (H : gdB p h S = false) : ¬ GdP p h S := @of_decide_eq_false _ (Classical.propDecidable _) H
/-- No list is longer than this. -/
def Short (S : List Shr) : Prop := ∀ k, k < S.length → (vS S k).length ≤ 1048576
theorem size_alloc (w : World) (o : Obj) : (w.alloc o).heap.size = w.heap.size + 1 := by simp
/-- Block g: which numbers have been seen. -/
structure SeenAt (w : World) (g : Nat) (f : Nat → Bool) : Prop where
  lt : g < w.heap.size
  cell : ∀ j, j < 17 → w.cell? ⟨g, j, none⟩ = some (.bool (f j))
  free : ∀ j, w.frozen? ⟨g, j, none⟩ = false
theorem SeenAt.below {w w' : World} {g : Nat} {f : Nat → Bool} (h : SeenAt w g f) (hb : Below w.heap.size w w') : SeenAt w' g f :=
  ⟨Nat.lt_of_lt_of_le h.lt hb.size, fun j hj => (hb.cell h.lt).trans (h.cell j hj), fun j => (hb.frozen (p := ⟨g, j, none⟩) h.lt).trans (h.free j)⟩
theorem SeenAt.set_ {w : World} {g : Nat} {f : Nat → Bool} (h : SeenAt w g f) (j : Nat) (hj : j < 17) : SeenAt (w.setCell ⟨g, j, none⟩ (.bool true)) g (fun i => if i = j then true else f i) := by
  refine ⟨by have := h.lt; simpa [World.setCell] using this, fun i hi => ?_, fun i => ?_⟩
  · by_cases e : i = j
    · subst e
      rw [World.cell?_setCell_same _ _ _ (by rw [h.cell i hi])]; simp
    · rw [World.cell?_setCell_other _ _ _ _ (fun e' => by injection e' with e1 e2; exact e e2.symm), h.cell i hi, if_neg e]
  · rw [World.frozen?_setCell]; exact h.free i
def seenF (S : List Shr) (k : Nat) (m : Nat) : Bool := (List.range k).any fun j => decide (hS S j = (m : Int))
theorem seenF_zero (S : List Shr) (m : Nat) : seenF S 0 m = false := rfl
theorem seenF_succ (S : List Shr) (k : Nat) (x : Nat) (hx : hS S k = (x : Int)) (m : Nat) : seenF S (k + 1) m = if m = x then true else seenF S k m := by
  unfold seenF
  rw [List.range_succ, List.any_append]
  simp only [List.any_cons, List.any_nil, Bool.or_false, hx]
  by_cases e : m = x
  · subst e; simp
  · rw [if_neg e, decide_eq_false (by omega), Bool.or_false]
theorem seenF_yes {S : List Shr} {k x : Nat} (hx : hS S k = (x : Int)) (h : seenF S k x = true) : ¬ ∀ j, j < k → hS S j ≠ hS S k := fun g => by
  unfold seenF at h
  rw [List.any_eq_true] at h
  obtain ⟨j, hj, hd⟩ := h
  exact g j (List.mem_range.1 hj) (by rw [of_decide_eq_true hd, hx])
theorem seenF_no {S : List Shr} {k x : Nat} (hx : hS S k = (x : Int)) (h : seenF S k x = false) : ∀ j, j < k → hS S j ≠ hS S k := fun j hj e => by
  unfold seenF at h
  rw [List.any_eq_false] at h
  exact h j (List.mem_range.2 hj) (by rw [e, hx]; simp)
end Go.Proofs.YtkjpnhhkebbmdaaDoor
