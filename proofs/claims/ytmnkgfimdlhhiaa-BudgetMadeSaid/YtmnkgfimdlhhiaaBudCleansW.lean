/-
  BudgetCleans: the walk.
-/
import Derived.Test.YtmnkgfimdlhhiaaBudL
import Derived.Test.YtmnkgfimdlhhiaaBudQ
import Derived.Test.YtmnkgfimdlhhiaaBudT
namespace Go.Proofs.Ytmnkgfimdlhhiaa
open Go.RowKit

/-- The call gives a budget made by dice. -/
theorem BudP.open_ {D : Nat} {w : World} {e : Ending} {w' : World} (h : BudP D w e w') (hD : D < w.heap.size) :
    ∃ (P A : Int) (S : List Spd) (C : Option Addr) (c : Nat) (R' : List Int), e = .returned (.agg #[.int .i64 P, .int .i64 A, .slice C S.length c]) ∧ (1 ≤ P ∧ P ≤ 10) ∧ (0 ≤ A ∧ A ≤ 5) ∧ BudOK P A S ∧ (∀ k, k < S.length → tS S k ≤ 25) ∧ S.length ≤ 5 ∧ SpAt w' C S ∧
      (∀ a, C = some a → a.spot = none ∨ S.length = 0) ∧ (C = none → S.length = 0 ∧ c = 0) ∧ (∀ b off, C = some ⟨b, off, none⟩ → w.heap.size ≤ b) ∧ DiceAt w' D R' ∧ w.grownBy w' (some D) := by
  obtain ⟨P, A, S, v, R', tm, rfl, hP, hA, hM, ht, hl, hown, hd, hg⟩ := h
  obtain ⟨C, c, rfl, hC, -, hb⟩ := hown.at_
  exact ⟨P, A, S, C, c, R', rfl, hP, hA, hM.ok ⟨hP.1, by omega⟩ ⟨hA.1, by omega⟩ (by omega), fun k hk => by have := hM.last k hk; omega, hl, hC, hown.spot, hown.nilcap, fun b off e => (hb b off e).1, hd, hg⟩

/-- What is left, by a call in any later world. -/
def LeftAt (wr : World) (P A k V : Int) (C : Option Addr) (n c : Nat) : Prop :=
  ∀ W, Below wr.heap.size wr W → Calls Try.prog 20 #[.agg #[.int .i64 P, .int .i64 A, .slice C n c], .int .i64 k] W (RetB (.int .i64 V) W)
theorem LeftAt.use {wr W : World} {P A k V : Int} {C : Option Addr} {n c : Nat} (h : LeftAt wr P A k V C n c) (hW : Below wr.heap.size wr W) : Calls Try.prog 20 #[.agg #[.int .i64 P, .int .i64 A, .slice C n c], .int .i64 k] W (RetB (.int .i64 V) W) := h W hW
theorem LeftAt.both {wr : World} {P A k V : Int} {C C3 : Option Addr} {n c n3 c3 : Nat} (h1 : LeftAt wr P A k V C n c) (h2 : LeftAt wr P A k V C3 n3 c3) (C' : Option Addr) (n' c' : Nat) (h : (C', n', c') = (C, n, c) ∨ (C', n', c') = (C3, n3, c3)) (W : World) (hW : Below wr.heap.size wr W) : Calls Try.prog 20 #[.agg #[.int .i64 P, .int .i64 A, .slice C' n' c'], .int .i64 k] W (RetB (.int .i64 V) W) := by
  rcases h with h | h <;> (injection h with e1 e2; injection e2 with e2 e3; subst e1; subst e2; subst e3)
  · exact h1 W hW
  · exact h2 W hW

set_option maxRecDepth 100000 in
set_option maxHeartbeats 4000000 in
theorem budgetCleans_walk (A0 : Option Addr) (L0 : List Int) (c0 : Nat) (t : Int) (w : World)
    (hl0 : L0.length ≤ maxLen) (hI0 : IntsAt w A0 L0) (_ : ∀ n ∈ L0, -9223372036854775808 ≤ n ∧ n ≤ 9223372036854775807) (ht : 0 ≤ t ∧ t ≤ 255) :
    Calls Try.prog 6 #[.slice A0 L0.length c0, .int .u8 t] w (RetB (.bool true) w) := by
  have hL := light_any A0 L0.length c0 w
  by_cases hlight : (L0.length : Int) ≤ 500
  · rw [decide_eq_true hlight] at hL
    have HLt := Lib.hid hL
    obtain ⟨t1, t2⟩ := ht
    have q1 : t.tmod 40 = t % 40 := Int.tmod_eq_emod_of_nonneg t1
    have q2 : IntKind.i64.wrap t = t := IntWalk.i64_in _ (by omega)
    have r1 := Int.emod_nonneg t (show (40 : Int) ≠ 0 by omega)
    have r2 := Int.emod_lt_of_pos t (show (0 : Int) < 40 by omega)
    have q3 : IntKind.i64.wrap (t % 40) = t % 40 := IntWalk.i64_in _ (by omega)
    clear hL hlight
    go_enter Try.func6, Try.ntmps6
    go_wp2_with fail
    refine ret_pure HLt.out ?_
    clear HLt
    go_wp2_with fail
    refine (roll_any A0 L0 c0 _ hl0 hI0).mono ?_
    rintro e w1 ⟨D, rfl, hDs, hD, hb1⟩
    have hDl := hD.lt
    clear hI0
    go_wp2_with fail
    refine (budget_any D L0 w1 hD).mono ?_
    intro e w2 hr
    obtain ⟨P, A, S, C, c, R2, rfl, hP, hA, hok, h25, hl, hC, hCs, hCn, -, -, hg2⟩ := hr.open_ hDl
    have hbw2 : Below w.heap.size w w2 := hb1.trans (grown_below hg2 hDs hb1.size)
    have HC := Lib.hid hC
    have HCs := Lib.hid hCs
    have HCn := Lib.hid hCn
    have HOK := Lib.hid hok
    have hs2 := hbw2.size
    clear hr hC hCs hCn hok h25 hg2 hD hb1
    go_wp2_with fail
    obtain ⟨tn, htn⟩ : ∃ tn, tn = t % 40 := ⟨_, rfl⟩
    have ht0 : 0 ≤ tn := by omega
    have ht1 : tn < 40 := by omega
    rw [← htn] at q1 q3 ⊢
    have HE0 := Lib.hid (clE_ok HOK.out (show 0 ≤ tn ∧ tn ≤ 1099511627776 by omega)).symm
    have HS0 := Lib.hid (clS_ok (clE_ok HOK.out (show 0 ≤ tn ∧ tn ≤ 1099511627776 by omega))).2.symm
    have hcl := clean_any P A C S c tn _ (HC.out.alloc (.cells #[.int .i64 P, .int .i64 A, .slice C S.length c] 24)) HCs.out HCn.out (by omega)
    rw [HE0.out, HS0.out] at hcl
    refine hcl.mono ?_
    intro e w3 hr
    obtain ⟨C3, c3, rfl, hC3, hb3⟩ := hr.open_
    clear hcl hr htn
    have hflen : (S.filter (keepC P tn)).length ≤ S.length := List.length_filter_le _ _
    have HLF := Lib.hid (fun k (hk : tn ≤ k) => left_cleaned (A := A) S hP.1 hk)
    have HOF := Lib.hid (HOK.out.filter (keepC P tn))
    generalize hF : S.filter (keepC P tn) = F at *
    clear hF
    have hp3 : Below w2.heap.size w2 w3 := (below_alloc _ _).trans (hb3.mono (by simp))
    have hbw3 : Below w.heap.size w w3 := hbw2.trans (hp3.mono hs2)
    have HX3 := Lib.hid ((BudCell.new (w := w2) P A (.slice C S.length c) rfl).below hb3)
    have HC3 := Lib.hid (HC.out.below hp3)
    have HF3 := Lib.hid hC3
    clear hC3 hb3 hp3 HC HE0 HS0
    go_wp2_with fail
    refine gen_world fun w4 hw4 => ?_
    have hp4 : Below w3.heap.size w3 w4 := by rw [hw4]; exact below_alloc _ _
    have HY4 := Lib.hid (show BudCell w4 w3.heap.size P A (.slice C3 F.length c3) by rw [hw4]; exact BudCell.new _ _ _ rfl)
    have HX4 := Lib.hid (HX3.out.below hp4)
    have HC4 := Lib.hid (HC3.out.below hp4)
    have HF4 := Lib.hid (HF3.out.below hp4)
    have hbw4 : Below w.heap.size w w4 := hbw3.trans (hp4.mono hbw3.size)
    clear hw4 hp4 HX3 HC3 HF3
    have HPP := Lib.hid (show 1 ≤ P ∧ P ≤ 1099511627776 by omega)
    have HAA := Lib.hid (show 0 ≤ A ∧ A ≤ 1073741824 by omega)
    have HT1 := Lib.hid (RowOK.times HOK.out.2.1)
    have HH1 := Lib.hid (RowOK.cheap HOK.out.2.1)
    have HT2 := Lib.hid (RowOK.times HOF.out.2.1)
    have HH2 := Lib.hid (RowOK.cheap HOF.out.2.1)
    go_loopw [9] (fun i wr => ∃ k : Nat, tn ≤ k ∧ k ≤ 60 ∧ i = .int .i64 k ∧ Below w4.heap.size w4 wr) (fun i _ => 60 - (intOf i).toNat)
    case atStart => exact ⟨tn.toNat, by omega, by omega, by rw [Int.toNat_of_nonneg ht0], Below.refl _ _⟩
    case round =>
      obtain ⟨k, hk1, hk2, rfl, hbr⟩ := hrel
      have hX := HX4.out.below hbr
      have hY := HY4.out.below hbr
      have x0 := hX.c0
      have x1 := hX.c1
      have x2 := hX.c2
      have y0 := hY.c0
      have y1 := hY.c1
      have y2 := hY.c2
      have sx := blk_lt hX
      have sy := blk_lt hY
      have HCr := Lib.hid (HC4.out.below hbr)
      have HFr := Lib.hid (HF4.out.below hbr)
      have hbwr : Below w.heap.size w wr := hbw4.trans (hbr.mono hbw4.size)
      have hbrs := hbr.size
      clear hX hY
      by_cases hlt : k < 60
      · go_wp2_with fail
        have n1 : (leftV P A S (k : Int) != leftV P A S (k : Int)) = false := by simp
        have HL1 : LeftAt wr P A (k : Int) (leftV P A S (k : Int)) C S.length c := fun W hW => left_any P A C S c (k : Int) W HPP.out HAA.out (HCr.out.below hW) HT1.out HH1.out (by omega) (by omega)
        have HL2 : LeftAt wr P A (k : Int) (leftV P A S (k : Int)) C3 F.length c3 := fun W hW => by
          have := left_any P A C3 F c3 (k : Int) W HPP.out HAA.out (HFr.out.below hW) HT2.out HH2.out (by omega) (by omega)
          rw [HLF.out (k : Int) hk1] at this; exact this
        refine wp_region_grew (by kernel_rfl) (by kernel_rfl) ?_
        repeat (go_big_quiet_step ((first
          | (go_at_call 20; exact grew_of (LeftAt.both HL1 HL2 _ _ _ (by first | exact .inl rfl | exact .inr rfl) _ (grewW.below _ _))))))
        refine wpQuiet_nil ?_
        intro w6 hb6
        go_wp2_with fail
        go_roundw
        case rel => exact ⟨k + 1, by omega, by omega, by go_num, hbr.trans (hb6.mono hbrs)⟩
        case measure => simp [intOf]; omega
      · go_wp2_with fail
        refine ret_below (awake_true _) fun w6 hb6 => ?_
        have hY6 := (HY4.out.below hbr).below hb6
        have hX6 := (HX4.out.below hbr).below hb6
        have x02 := hX6.c2
        have y00 := hY6.c0
        have y01 := hY6.c1
        have y02 := hY6.c2
        have sx6 := blk_lt hX6
        have sy6 := blk_lt hY6
        have hbw6 : Below w.heap.size w w6 := hbwr.trans (hb6.mono hbwr.size)
        have HF6 := Lib.hid (HFr.out.below hb6)
        have HX6 := Lib.hid hX6
        have HY6 := Lib.hid hY6
        clear hX6 hY6 x0 x1 x2 y0 y1 y2
        go_wp2_with fail
        have hck := check_any P A C3 F c3 _ HF6.out (by omega)
        rw [budE_ok HOF.out] at hck
        refine ret_below hck fun w7 hb7 => ?_
        have x2 := (HX6.out.below hb7).c2
        have y2 := (HY6.out.below hb7).c2
        clear hck x02 y00 y01 y02
        have hfi : (F.length : Int) ≤ (S.length : Int) := by omega
        go_wp2_with fail
        go_ret
        exact RetB.bool rfl (hbw6.trans (hb7.mono hbw6.size))
  · have hL' := hL
    rw [decide_eq_false hlight] at hL
    have HLt := Lib.hid hL
    clear hL hL'
    go_enter Try.func6, Try.ntmps6
    go_wp2_with fail
    refine ret_pure HLt.out ?_
    go_wp2_with fail
    refine ret_below (awake_true _) fun w1 hb => ?_
    go_wp2
    go_ret
    exact RetB.bool rfl hb
end Go.Proofs.Ytmnkgfimdlhhiaa
