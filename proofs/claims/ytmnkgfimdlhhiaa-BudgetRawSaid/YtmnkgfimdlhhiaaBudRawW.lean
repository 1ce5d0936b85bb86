/-
  BudgetRaw: the walk.
-/
import Derived.Test.YtmnkgfimdlhhiaaBudL
namespace Go.Proofs.Ytmnkgfimdlhhiaa
open Go.RowKit

set_option maxRecDepth 100000 in
set_option maxHeartbeats 2000000 in
theorem budgetRaw_walk (P A : Int) (B : Option Addr) (S : List Spd) (c : Nat) (t x : Int) (w : World) (_ : S.length ≤ maxLen) (hS : SpAt w B S) (hA : ∀ a, B = some a → a.spot = none ∨ S.length = 0) (hN : B = none → S.length = 0 ∧ c = 0)
    (_ : -9223372036854775808 ≤ t ∧ t ≤ 9223372036854775807) (_ : -9223372036854775808 ≤ x ∧ x ≤ 9223372036854775807) :
    Calls Try.prog 3 #[.agg #[.int .i64 P, .int .i64 A, .slice B S.length c], .int .i64 t, .int .i64 x] w (RetB (.bool true) w) := by
  have HS := Lib.hid hS
  have HA := Lib.hid hA
  have HN := Lib.hid hN
  clear hS hA hN
  by_cases h1 : 60 < (S.length : Int)
  · clear HS HA HN
    go_enter Try.func3, Try.ntmps3
    go_wp2_with fail
    refine ret_below (awake_true _) fun w1 hb => ?_
    go_wp2
    go_ret
    exact RetB.bool rfl ((below_alloc _ _).trans (hb.mono (by simp)))
  · by_cases h2 : 2199023255552 < t
    · clear HS HA HN
      go_enter Try.func3, Try.ntmps3
      go_wp2_with fail
      refine ret_below (awake_true _) fun w1 hb => ?_
      go_wp2
      go_ret
      exact RetB.bool rfl ((below_alloc _ _).trans (hb.mono (by simp)))
    · by_cases h3 : t < -1099511627776
      · clear HS HA HN
        go_enter Try.func3, Try.ntmps3
        go_wp2_with fail
        refine ret_below (awake_true _) fun w1 hb => ?_
        go_wp2
        go_ret
        exact RetB.bool rfl ((below_alloc _ _).trans (hb.mono (by simp)))
      · by_cases h4 : t < 0
        all_goals
          go_enter Try.func3, Try.ntmps3
          go_wp2_with fail
          refine ret_below (awake_true _) fun w1 hb => ?_
          have hX : BudCell w1 w.heap.size P A (.slice B S.length c) := (BudCell.new _ _ _ rfl).below hb
          have hbw : Below w.heap.size w w1 := (below_alloc _ _).trans (hb.mono (by simp))
          have x0 := hX.c0
          have x1 := hX.c1
          have x2 := hX.c2
          clear hX
          go_wp2_with fail
          refine ret_below (agree_true P A B S c t x _ (HS.out.below hbw) HA.out HN.out (by omega) (by omega)) fun w2 hb2 => ?_
          go_wp2
          go_ret
          exact RetB.bool rfl (hbw.trans (hb2.mono hbw.size))
end Go.Proofs.Ytmnkgfimdlhhiaa
