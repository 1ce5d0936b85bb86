/-
  Budgets: slices that read as lists of spends; ranges.In.
-/
import Derived.Test.YtmnkgfimdlhhiaaKit2
namespace Go.Proofs.Ytmnkgfimdlhhiaa
open Go.RowKit

theorem info_spend : (Try.prog.info? 33).map (fun i => (i.zero, i.size, i.bytes)) = some (some (.agg #[.int .i64 0, .int .i64 0]), 2, 16) := by kernel_rfl

abbrev Spd := Int × Int
def tS (S : List Spd) (k : Nat) : Int := (S.getD k (0, 0)).1
def cS (S : List Spd) (k : Nat) : Int := (S.getD k (0, 0)).2
/-- The address A leads to the spends S. -/
def SpAt (w : World) (A : Option Addr) (S : List Spd) : Prop :=
  ∀ k, k < S.length → ∃ b off, A = some ⟨b, off, none⟩ ∧ b < w.heap.size ∧ w.cell? ⟨b, off + k * 2, none⟩ = some (.int .i64 (tS S k)) ∧ w.cell? ⟨b, off + k * 2 + 1, none⟩ = some (.int .i64 (cS S k))
theorem SpAt.nil (w : World) (A : Option Addr) : SpAt w A [] := fun k h => absurd h (by simp)
theorem SpAt.below {w w' : World} {A : Option Addr} {S : List Spd} (h : SpAt w A S) (hb : Below w.heap.size w w') : SpAt w' A S := fun k hk => by
  obtain ⟨b, off, hA, hlt, hc, hd⟩ := h k hk
  exact ⟨b, off, hA, Nat.lt_of_lt_of_le hlt hb.size, (hb.cell hlt).trans hc, (hb.cell hlt).trans hd⟩
theorem SpAt.grown {w w' : World} {A : Option Addr} {S : List Spd} {D : Nat} (h : SpAt w A S) (hg : w.grownBy w' (some D)) (hD : ∀ b off, A = some ⟨b, off, none⟩ → b ≠ D) : SpAt w' A S := fun k hk => by
  obtain ⟨b, off, hA, hlt, hc, hd⟩ := h k hk
  exact ⟨b, off, hA, Nat.lt_of_lt_of_le hlt hg.size, (grown_cell hg b _ hlt (hD b off hA)).trans hc, (grown_cell hg b _ hlt (hD b off hA)).trans hd⟩

def inI (n lo hi : Int) : Bool := decide (lo ≤ n ∧ n ≤ hi)
theorem inI_lo {n lo hi : Int} (h : ¬ lo ≤ n) : false = inI n lo hi := by unfold inI; exact (decide_eq_false (fun h1 => h h1.1)).symm
theorem inI_hi {n lo hi : Int} (h : lo ≤ n) : decide (n ≤ hi) = inI n lo hi := by unfold inI; simp [h]
theorem in_any (n lo hi : Int) (w : World) :
    Calls Try.prog 49 #[.int .i64 n, .int .i64 lo, .int .i64 hi] w (Ret (.bool (inI n lo hi)) w) := by
  by_cases h : lo ≤ n
  · have HV := Lib.hid (inI_hi (hi := hi) h)
    go_enter Try.func49, Try.ntmps49
    go_wp2_with fail
    go_ret
    exact Ret.bool HV.out
  · have HV := Lib.hid (inI_lo (hi := hi) h)
    go_enter Try.func49, Try.ntmps49
    go_wp2_with fail
    go_ret
    exact Ret.bool HV.out
theorem in_yes (n lo hi : Int) (h : lo ≤ n ∧ n ≤ hi) (w : World) :
    Calls Try.prog 49 #[.int .i64 n, .int .i64 lo, .int .i64 hi] w (Ret (.bool true) w) := by
  have := in_any n lo hi w
  rwa [show inI n lo hi = true from decide_eq_true h] at this
theorem in_no (n lo hi : Int) (h : ¬ (lo ≤ n ∧ n ≤ hi)) (w : World) :
    Calls Try.prog 49 #[.int .i64 n, .int .i64 lo, .int .i64 hi] w (Ret (.bool false) w) := by
  have := in_any n lo hi w
  rwa [show inI n lo hi = false from decide_eq_false h] at this

/-! ### The tests that a budget's sums are made with -/
/-- A budget in a cell: its fields. -/
def BudCell (w : World) (x : Nat) (P A : Int) (v : Value) : Prop :=
  w.heap[x]? = some (.cells #[.int .i64 P, .int .i64 A, v] 24 (0, 0))
theorem BudCell.c0 {w : World} {x : Nat} {P A : Int} {v : Value} (h : BudCell w x P A v) : w.cell? ⟨x, 0, none⟩ = some (.int .i64 P) := by
  rw [cell_of_row w x 0 _ _ (0, 0) h]; rfl
theorem BudCell.c1 {w : World} {x : Nat} {P A : Int} {v : Value} (h : BudCell w x P A v) : w.cell? ⟨x, 1, none⟩ = some (.int .i64 A) := by
  rw [cell_of_row w x 1 _ _ (0, 0) h]; rfl
theorem BudCell.c2 {w : World} {x : Nat} {P A : Int} {v : Value} (h : BudCell w x P A v) : w.cell? ⟨x, 2, none⟩ = some v := by
  rw [cell_of_row w x 2 _ _ (0, 0) h]; rfl
theorem blk_lt {w : World} {x : Nat} {o : Obj} (h : w.heap[x]? = some o) : x < w.heap.size := by
  rcases Nat.lt_or_ge x w.heap.size with hlt | hge
  · exact hlt
  · rw [Array.getElem?_eq_none hge] at h; cases h
theorem BudCell.below {w w' : World} {x : Nat} {P A : Int} {v : Value} (h : BudCell w x P A v) (hb : Below w.heap.size w w') : BudCell w' x P A v := (hb.block x (blk_lt h)).trans h
def IntCell (w : World) (y : Nat) (n : Int) : Prop := w.heap[y]? = some (.cells #[.int .i64 n] 3 (0, 0))
theorem IntCell.c0 {w : World} {y : Nat} {n : Int} (h : IntCell w y n) : w.cell? ⟨y, 0, none⟩ = some (.int .i64 n) := by
  rw [cell_of_row w y 0 _ _ (0, 0) h]; rfl
theorem IntCell.below {w w' : World} {x : Nat} {n : Int} (h : IntCell w x n) (hb : Below w.heap.size w w') : IntCell w' x n := (hb.block x (blk_lt h)).trans h
theorem IntCell.new {w : World} {i : Nat} (n : Int) (h : i = w.heap.size) : IntCell (w.alloc (.cells #[.int .i64 n] 3)) i n := by subst h; exact heap_alloc_new w _
theorem BudCell.new {w : World} {i : Nat} (P A : Int) (v : Value) (h : i = w.heap.size) : BudCell (w.alloc (.cells #[.int .i64 P, .int .i64 A, v] 24)) i P A v := by subst h; exact heap_alloc_new w _
theorem IntCell.alloc {w : World} {i : Nat} {n : Int} (h : IntCell w i n) (o : Obj) : IntCell (w.alloc o) i n := h.below (below_alloc w o)
theorem BudCell.alloc {w : World} {i : Nat} {P A : Int} {v : Value} (h : BudCell w i P A v) (o : Obj) : BudCell (w.alloc o) i P A v := h.below (below_alloc w o)
theorem SpAt.alloc {w : World} {A : Option Addr} {S : List Spd} (h : SpAt w A S) (o : Obj) : SpAt (w.alloc o) A S := h.below (below_alloc w o)
theorem SpAt.drewN {w : World} {A : Option Addr} {S : List Spd} (h : SpAt w A S) (n : Nat) : SpAt (w.drewN n) A S := h
theorem pair_cells (w : World) (t c : Int) : (w.alloc (.cells #[.int .i64 t, .int .i64 c] 33)).cell? ⟨w.heap.size, 0, none⟩ = some (.int .i64 t) ∧ (w.alloc (.cells #[.int .i64 t, .int .i64 c] 33)).cell? ⟨w.heap.size, 1, none⟩ = some (.int .i64 c) := by
  have h := heap_alloc_new w (.cells #[.int .i64 t, .int .i64 c] 33)
  constructor
  · rw [cell_of_row _ _ 0 _ _ (0, 0) h]; rfl
  · rw [cell_of_row _ _ 1 _ _ (0, 0) h]; rfl

theorem beq_dec (a b : Int) : (a == b) = decide (a = b) := by
  by_cases h : a = b
  · subst h; simp
  · simp [h]
set_option maxHeartbeats 400000 in
theorem leftT_any (x y : Nat) (P A : Int) (v : Value) (t c time : Int) (w : World) (hP : 1 ≤ P ∧ P ≤ 1099511627776) (hx : BudCell w x P A v) (hy : IntCell w y time) (h1 : 0 ≤ t ∧ t ≤ 1099511627776) (h2 : 0 ≤ time ∧ time ≤ 2199023255552) :
    Calls Try.prog 51 #[.agg #[.int .i64 t, .int .i64 c], .pointer (some ⟨x, 0, none⟩), .pointer (some ⟨y, 0, none⟩)] w (RetB (.bool (decide (t / P = time / P))) w) := by
  obtain ⟨p1, p2⟩ := hP
  obtain ⟨t1, t2⟩ := h1
  obtain ⟨m1, m2⟩ := h2
  have q1 : t.tdiv P = t / P := Int.tdiv_eq_ediv_of_nonneg t1
  have q2 : time.tdiv P = time / P := Int.tdiv_eq_ediv_of_nonneg m1
  have z1 : ¬ P = 0 := by omega
  have z2 : (P == 0) = false := by simp; omega
  have b1 := Int.ediv_nonneg t1 (show 0 ≤ P by omega)
  have b2 := Int.ediv_le_self P t1
  have b3 := Int.ediv_nonneg m1 (show 0 ≤ P by omega)
  have b4 := Int.ediv_le_self P m1
  have v1 : IntKind.i64.wrap (t / P) = t / P := IntWalk.i64_in _ (by omega)
  have v2 : IntKind.i64.wrap (time / P) = time / P := IntWalk.i64_in _ (by omega)
  have HX := Lib.hid hx
  have HY := Lib.hid hy
  clear hx hy
  go_enter Try.func51, Try.ntmps51
  go_wp2_with fail
  refine gen_world fun w1 hw1 => ?_
  have hb : Below w.heap.size w w1 := by rw [hw1]; exact below_alloc _ _
  obtain ⟨e0, e1⟩ : w1.cell? ⟨w.heap.size, 0, none⟩ = some (.int .i64 t) ∧ w1.cell? ⟨w.heap.size, 1, none⟩ = some (.int .i64 c) := by rw [hw1]; exact pair_cells w t c
  have ex := (HX.out.below hb).c0
  have ey := (HY.out.below hb).c0
  clear hw1
  go_quiet (fail)
  go_wp2
  go_ret
  exact RetB.bool (beq_dec _ _) (below_drewN hb _)

set_option maxHeartbeats 400000 in
theorem totT_any (x y : Nat) (t c from_ to_ : Int) (w : World) (hx : IntCell w x from_) (hy : IntCell w y to_) :
    Calls Try.prog 54 #[.agg #[.int .i64 t, .int .i64 c], .pointer (some ⟨x, 0, none⟩), .pointer (some ⟨y, 0, none⟩)] w (RetB (.bool (inI t from_ to_)) w) := by
  have ex := hx.c0
  have ey := hy.c0
  have lx := blk_lt hx
  have ly := blk_lt hy
  clear hx hy
  by_cases h : from_ ≤ t
  · have HV := Lib.hid (inI_hi (hi := to_) h)
    go_enter Try.func54, Try.ntmps54
    go_wp2
    go_ret
    exact RetB.bool HV.out (below_alloc _ _)
  · have HV := Lib.hid (inI_lo (hi := to_) h)
    go_enter Try.func54, Try.ntmps54
    go_wp2
    go_ret
    exact RetB.bool HV.out (below_alloc _ _)

/-! ### Sums -/
def addT (T : Spd → Bool) (x : Spd) : Int := if T x then x.2 else 0
theorem addT_yes {T : Spd → Bool} {x : Spd} (h : T x = true) : addT T x = x.2 := by unfold addT; rw [if_pos h]
theorem addT_no {T : Spd → Bool} {x : Spd} (h : T x = false) : addT T x = 0 := by unfold addT; rw [h]; rfl
def sumK (T : Spd → Bool) (S : List Spd) : Nat → Int
  | 0 => 0
  | k + 1 => sumK T S k + addT T (S.getD k (0, 0))
theorem sumK_succ (T : Spd → Bool) (S : List Spd) (k : Nat) : sumK T S (k + 1) = sumK T S k + addT T (S.getD k (0, 0)) := rfl
def sumT (T : Spd → Bool) (S : List Spd) : Int := sumK T S S.length
/-- The costs are small. -/
def Cheap (S : List Spd) : Prop := ∀ k, k < S.length → 0 ≤ cS S k ∧ cS S k ≤ 1073741824
theorem sumK_range {S : List Spd} (h : Cheap S) (T : Spd → Bool) : ∀ k, k ≤ S.length → 0 ≤ sumK T S k ∧ sumK T S k ≤ 1073741824 * k
  | 0, _ => by simp [sumK]
  | k + 1, hk => by
    have ih := sumK_range h T k (by omega)
    obtain ⟨c1, c2⟩ := h k (by omega)
    rw [sumK_succ]
    have : 0 ≤ addT T (S.getD k (0, 0)) ∧ addT T (S.getD k (0, 0)) ≤ 1073741824 := by
      unfold addT; split
      · exact ⟨c1, c2⟩
      · omega
    push_cast; omega

set_option maxHeartbeats 1000000 in
theorem cost_any (n : Nat) (u1 u2 : Value) (T : Spd → Bool) (P A : Int) (B : Option Addr) (S : List Spd) (cap : Nat) (w : World) (hS : SpAt w B S) (hc : Cheap S) (hl : S.length ≤ 100000) (hn : ∀ args w, (callFunc n args).run Try.prog w = .ok (.enter n args) w)
    (hT : ∀ w', Below w.heap.size w w' → ∀ k, k < S.length → Calls Try.prog n #[.agg #[.int .i64 (tS S k), .int .i64 (cS S k)], u1, u2] w' (RetB (.bool (T (S.getD k (0, 0)))) w')) :
    Calls Try.prog 50 #[.agg #[.int .i64 P, .int .i64 A, .slice B S.length cap], .func (.func n) #[] #[u1, u2]] w (RetB (.int .i64 (sumT T S)) w) := by
  have HS := Lib.hid hS
  have HT := Lib.hid hT
  have HC := Lib.hid hc
  have HR := Lib.hid (fun k hk => sumK_range hc T k hk)
  clear hS hT hc
  go_enter Try.func50, Try.ntmps50
  go_wp2_with fail
  refine gen_world fun w1 hw1 => ?_
  have hb : Below w.heap.size w w1 := by rw [hw1]; exact below_alloc _ _
  clear hw1
  go_loopw [11, 5] (fun i s wr => ∃ k : Nat, k ≤ S.length ∧ i = .int .i64 k ∧ s = .int .i64 (sumK T S k) ∧ Below w.heap.size w wr) (fun i _ _ => S.length - (intOf i).toNat)
  case atStart => exact ⟨0, Nat.zero_le _, rfl, rfl, hb⟩
  case round =>
    obtain ⟨k, hk, rfl, rfl, hbr⟩ := hrel
    have hr := HR.out k hk
    by_cases hlt : k < S.length
    · have HC1 := Lib.hid (HC.out k hlt)
      obtain ⟨b, off, rfl, hbl, c1, c2⟩ := HS.out k hlt
      have d1 := (hbr.cell hbl).trans c1
      have d2 := (hbr.cell hbl).trans c2
      have hbs := hbr.size
      clear c1 c2
      go_wp2_with fail
      refine ret_below (HT.out _ (hbr.trans ((below_alloc _ _).mono hbs)) k hlt) fun w2 hb2 => ?_
      generalize hx : T (S.getD k (0, 0)) = tv at *
      have HX := Lib.hid hx
      clear hx
      have hsz := hb2.size
      simp at hsz
      have d3 : w2.cell? ⟨wr.heap.size, 1, none⟩ = some (.int .i64 (cS S k)) := (hb2.cell (p := ⟨wr.heap.size, 1, none⟩) (by simp)).trans (pair_cells wr (tS S k) (cS S k)).2
      have hbw : Below w.heap.size w w2 := (hbr.trans ((below_alloc _ _).mono hbs)).trans (hb2.mono (by simp; omega))
      cases tv with
      | true =>
        have hs := HC1.out
        have hw : IntKind.i64.wrap (sumK T S k + cS S k) = sumK T S k + cS S k := IntWalk.i64_in _ (by omega)
        go_wp2_with fail
        go_roundw
        case rel => exact ⟨k + 1, by omega, by go_num, by rw [sumK_succ, addT_yes HX.out]; rfl, hbw⟩
        case measure => simp [intOf]; omega
      | false =>
        go_wp2_with fail
        go_roundw
        case rel => exact ⟨k + 1, by omega, by go_num, by rw [sumK_succ, addT_no HX.out, Int.add_zero], hbw⟩
        case measure => simp [intOf]; omega
    · go_wp2_with fail
      go_ret
      refine RetB.int ?_ hbr
      rw [show k = S.length by omega]; rfl
end Go.Proofs.Ytmnkgfimdlhhiaa
