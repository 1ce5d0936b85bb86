/-
  Budgets: Left and Total, the program's and the document's.
-/
import Derived.Test.YtmnkgfimdlhhiaaBudA
import Derived.Conc.MuLone
namespace Go.Proofs.Ytmnkgfimdlhhiaa
open Go.RowKit

theorem hmf (fn : Fn) (first cap : Array Value) (w : World) : (Instr.makeFunc fn first cap).run Try.prog w = .ok (.func fn first cap) w := rfl
theorem enter_left (args : Array Value) (w : World) : (callFunc 51 args).run Try.prog w = .ok (.enter 51 args) w :=
  MuLone.run_callFunc_enter Try.func51 (by kernel_rfl) rfl args w
theorem enter_total (args : Array Value) (w : World) : (callFunc 54 args).run Try.prog w = .ok (.enter 54 args) w :=
  MuLone.run_callFunc_enter Try.func54 (by kernel_rfl) rfl args w

def Times (S : List Spd) : Prop := ∀ k, k < S.length → 0 ≤ tS S k ∧ tS S k ≤ 1099511627776
def perT (P time : Int) (x : Spd) : Bool := decide (x.1 / P = time / P)
def used (P : Int) (S : List Spd) (time : Int) : Int := sumT (perT P time) S
def leftV (P A : Int) (S : List Spd) (time : Int) : Int := if time < 0 then 0 else A - used P S time
theorem leftV_neg {P A : Int} {S : List Spd} {time : Int} (h : time < 0) : leftV P A S time = 0 := if_pos h
theorem leftV_pos {P A : Int} {S : List Spd} {time : Int} (h : ¬ time < 0) : leftV P A S time = A - used P S time := if_neg h
def spanT (a b : Int) (x : Spd) : Bool := inI x.1 a b
def totV (S : List Spd) (a b : Int) : Int := sumT (spanT a b) S

theorem tS_eq (S : List Spd) (k : Nat) : (S.getD k (0, 0)).1 = tS S k := rfl
theorem cost_left (x y : Nat) (P A time : Int) (v : Value) (P' A' : Int) (B : Option Addr) (S : List Spd) (cap : Nat) (w : World) (hP : 1 ≤ P ∧ P ≤ 1099511627776) (hX : BudCell w x P A v) (hY : IntCell w y time) (hS : SpAt w B S) (hT : Times S) (hC : Cheap S) (hl : S.length ≤ 100000) (ht : 0 ≤ time ∧ time ≤ 2199023255552) :
    Calls Try.prog 50 #[.agg #[.int .i64 P', .int .i64 A', .slice B S.length cap], .func (.func 51) #[] #[.pointer (some ⟨x, 0, none⟩), .pointer (some ⟨y, 0, none⟩)]] w (RetB (.int .i64 (used P S time)) w) :=
  cost_any 51 _ _ (perT P time) P' A' B S cap w hS hC hl enter_left fun w' hb k hk => leftT_any x y P A v (tS S k) (cS S k) time w' hP (hX.below hb) (hY.below hb) (hT k hk) ht
theorem cost_total (x y : Nat) (a b : Int) (P' A' : Int) (B : Option Addr) (S : List Spd) (cap : Nat) (w : World) (hX : IntCell w x a) (hY : IntCell w y b) (hS : SpAt w B S) (hC : Cheap S) (hl : S.length ≤ 100000) :
    Calls Try.prog 50 #[.agg #[.int .i64 P', .int .i64 A', .slice B S.length cap], .func (.func 54) #[] #[.pointer (some ⟨x, 0, none⟩), .pointer (some ⟨y, 0, none⟩)]] w (RetB (.int .i64 (totV S a b)) w) :=
  cost_any 54 _ _ (spanT a b) P' A' B S cap w hS hC hl enter_total fun w' hb k _ => totT_any x y (tS S k) (cS S k) a b w' (hX.below hb) (hY.below hb)

set_option maxHeartbeats 1000000 in
theorem left_any (P A : Int) (B : Option Addr) (S : List Spd) (cap : Nat) (time : Int) (w : World) (hP : 1 ≤ P ∧ P ≤ 1099511627776) (hA : 0 ≤ A ∧ A ≤ 1073741824) (hS : SpAt w B S) (hT : Times S) (hC : Cheap S) (hl : S.length ≤ 100000) (ht : time ≤ 2199023255552) :
    Calls Try.prog 20 #[.agg #[.int .i64 P, .int .i64 A, .slice B S.length cap], .int .i64 time] w (RetB (.int .i64 (leftV P A S time)) w) := by
  by_cases h0 : time < 0
  · have HV := Lib.hid (leftV_neg (P := P) (A := A) (S := S) h0)
    go_enter Try.func20, Try.ntmps20
    go_wp2
    go_ret
    exact RetB.int HV.out.symm ((below_alloc _ _).alloc (by simp) _)
  · have HV := Lib.hid (leftV_pos (P := P) (A := A) (S := S) h0)
    have HS := Lib.hid hS
    have HT := Lib.hid hT
    have HC := Lib.hid hC
    have hr := sumK_range hC (perT P time) S.length (Nat.le_refl _)
    rw [show sumK (perT P time) S S.length = used P S time from rfl] at hr
    have hP0 := hP
    obtain ⟨p1, p2⟩ := hP
    obtain ⟨a1, a2⟩ := hA
    clear hS hT hC
    have hmf' := hmf
    go_enter Try.func20, Try.ntmps20
    go_wp2_with fail
    refine gen_world fun w1 hw1 => ?_
    have hb : Below w.heap.size w w1 := by rw [hw1]; exact (below_alloc _ _).alloc (by simp) _
    have hs := hb.size
    have HX : BudCell w1 w.heap.size P A (.slice B S.length cap) := by
      rw [hw1]; exact (heap_alloc_old _ _ (by simp)).trans (heap_alloc_new w _)
    have HY : IntCell w1 (w.heap.size + 1) time := by
      rw [hw1]; exact IntCell.new _ (by simp)
    have hx0 := HX.c0
    have hx1 := HX.c1
    have hx2 := HX.c2
    have HX := Lib.hid HX
    have HY := Lib.hid HY
    have hlt : w.heap.size < w1.heap.size := blk_lt HX.out
    clear hw1
    refine wp_region_grew (by kernel_rfl) (by kernel_rfl) ?_
    repeat (go_big_quiet_step ((first
      | (go_at_call 50; exact grew_of (cost_left _ _ P A time _ P A B S cap _ hP0 (HX.out.below (grewW.below _ _)) (HY.out.below (grewW.below _ _)) ((HS.out.below hb).below (grewW.below _ _)) HT.out HC.out hl ⟨h0, ht⟩)))))
    refine wpQuiet_nil ?_
    intro w2 hb2
    go_wp2
    go_ret
    refine RetB.int HV.out.symm (hb.trans (hb2.mono hs))

set_option maxHeartbeats 1000000 in
theorem total_any (P A : Int) (B : Option Addr) (S : List Spd) (cap : Nat) (from_ to_ : Int) (w : World) (hS : SpAt w B S) (hC : Cheap S) (hl : S.length ≤ 100000) :
    Calls Try.prog 23 #[.agg #[.int .i64 P, .int .i64 A, .slice B S.length cap], .int .i64 from_, .int .i64 to_] w (RetB (.int .i64 (totV S from_ to_)) w) := by
  have HS := Lib.hid hS
  have HC := Lib.hid hC
  clear hS hC
  have hmf' := hmf
  go_enter Try.func23, Try.ntmps23
  go_wp2_with fail
  refine ret_below (cost_total _ _ from_ to_ P A B S cap _ ((IntCell.new _ (by simp)).alloc _) (IntCell.new _ (by simp)) (((HS.out.alloc _).alloc _).alloc _) HC.out hl) fun w2 hb2 => ?_
  have hb : Below w.heap.size w w2 := (((below_alloc _ _).alloc (by simp) _).alloc (by simp; omega) _).trans (hb2.mono (by simp; omega))
  go_wp2
  go_ret
  exact RetB.int rfl hb

/-! ### The document's -/
theorem sumK_span_yes {S : List Spd} {k : Nat} {a b : Int} (h : a ≤ tS S k ∧ tS S k ≤ b) : sumK (spanT a b) S (k + 1) = sumK (spanT a b) S k + cS S k := by
  rw [sumK_succ, addT_yes]; rfl
  show inI (tS S k) a b = true
  unfold inI; exact decide_eq_true h
theorem sumK_span_no {S : List Spd} {k : Nat} {a b : Int} (h : ¬ (a ≤ tS S k ∧ tS S k ≤ b)) : sumK (spanT a b) S (k + 1) = sumK (spanT a b) S k := by
  rw [sumK_succ, addT_no, Int.add_zero]
  show inI (tS S k) a b = false
  unfold inI; exact decide_eq_false h
set_option maxHeartbeats 1000000 in
theorem refTotal_any (P A : Int) (B : Option Addr) (S : List Spd) (cap : Nat) (from_ to_ : Int) (w : World) (hS : SpAt w B S) (hC : Cheap S) (hl : S.length ≤ 100000) :
    Calls Try.prog 46 #[.agg #[.int .i64 P, .int .i64 A, .slice B S.length cap], .int .i64 from_, .int .i64 to_] w (RetB (.int .i64 (totV S from_ to_)) w) := by
  have HS := Lib.hid hS
  have HC := Lib.hid hC
  have HR := Lib.hid (fun k hk => sumK_range hC (spanT from_ to_) k hk)
  clear hS hC
  go_enter Try.func46, Try.ntmps46
  go_wp2_with fail
  refine gen_world fun w1 hw1 => ?_
  have hb : Below w.heap.size w w1 := by rw [hw1]; exact below_alloc _ _
  have HX : BudCell w1 w.heap.size P A (.slice B S.length cap) := by rw [hw1]; exact BudCell.new _ _ _ rfl
  have hx2 := HX.c2
  have HS1 := Lib.hid (HS.out.below hb)
  clear hw1 HX HS
  go_loopw [8, 7] (fun i s wr => ∃ k : Nat, k ≤ S.length ∧ i = .int .i64 k ∧ s = .int .i64 (sumK (spanT from_ to_) S k) ∧ wr = w1) (fun i _ _ => S.length - (intOf i).toNat)
  case atStart => exact ⟨0, Nat.zero_le _, rfl, rfl, rfl⟩
  case round =>
    obtain ⟨k, hk, rfl, rfl, rfl⟩ := hrel
    by_cases hlt : k < S.length
    · have hr := HR.out k hk
      have HC1 := HC.out k hlt
      obtain ⟨b, off, rfl, hbl, c1, c2⟩ := HS1.out k hlt
      have hw : IntKind.i64.wrap (sumK (spanT from_ to_) S k + cS S k) = sumK (spanT from_ to_) S k + cS S k := IntWalk.i64_in _ (by omega)
      by_cases h1 : from_ ≤ tS S k
      · by_cases h2 : tS S k ≤ to_
        · have HV := Lib.hid (sumK_span_yes (S := S) (k := k) ⟨h1, h2⟩)
          go_wp2_with fail
          go_roundw
          case rel => exact ⟨k + 1, by omega, by go_num, by rw [HV.out], trivial⟩
          case measure => simp [intOf]; omega
        · have HV := Lib.hid (sumK_span_no (S := S) (k := k) (a := from_) (b := to_) (fun h => h2 h.2))
          go_wp2_with fail
          go_roundw
          case rel => exact ⟨k + 1, by omega, by go_num, by rw [HV.out], trivial⟩
          case measure => simp [intOf]; omega
      · have HV := Lib.hid (sumK_span_no (S := S) (k := k) (a := from_) (b := to_) (fun h => h1 h.1))
        go_wp2_with fail
        go_roundw
        case rel => exact ⟨k + 1, by omega, by go_num, by rw [HV.out], trivial⟩
        case measure => simp [intOf]; omega
    · go_wp2_with fail
      go_ret
      refine RetB.int ?_ hb
      rw [show k = S.length by omega]; rfl
end Go.Proofs.Ytmnkgfimdlhhiaa
