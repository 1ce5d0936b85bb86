/-
  Polynomials: the one through points, by the program.
-/
import Derived.Test.YtkjpnhhkebbmdaaDoorPolB
import Derived.Test.YtkjpnhhkebbmdaaDoorPolI2
import Derived.Deep.RegionHeld3
namespace Go.Proofs.YtkjpnhhkebbmdaaDoor
open Go.RowKit

theorem below_undrew {B n : Nat} {w w' : World} (h : Below B (w.drewN n) w') : Below B w w' := ⟨h.os, h.tape, h.output, h.size, h.block⟩
theorem below_undrew1 {B : Nat} {w w' : World} (h : Below B w.drew w') : Below B w w' := ⟨h.os, h.tape, h.output, h.size, h.block⟩
theorem sub_zero_nat (p x : Nat) (w : World) (hp : 1 ≤ p) (hp2 : p ≤ 2147483648) (hx : x < p) : Calls Tryd.prog 77 #[.int .i64 p, .int .i64 0, .int .i64 x] w (Ret (.int .i64 (fsub p 0 x : Nat)) w) :=
  sub_nat p 0 x w hp hp2 (by omega) hx
theorem lit1_nats (w : World) (a : Nat) : NatBlk (w.alloc (.cells #[.int .i64 (a : Int)] 3)) w.heap.size [a] := heap_alloc_new w _
theorem lit2_nats (w : World) (a b : Nat) : NatBlk (w.alloc (.cells #[.int .i64 (a : Int), .int .i64 (b : Int)] 3)) w.heap.size [a, b] := heap_alloc_new w _
def thR (p : Nat) (xs ys : List Nat) : List Nat := if itE xs ys = 0 then thN p xs ys else []
theorem thR_ok {p : Nat} {xs ys : List Nat} (h : itE xs ys = 0) : thR p xs ys = thN p xs ys := if_pos h
theorem thR_no {p : Nat} {xs ys : List Nat} (h : ¬ itE xs ys = 0) : thR p xs ys = [] := if_neg h
theorem nw_zero (p : Nat) (xs ys : List Nat) : (nwN p xs ys 0).1 = [] ∧ (nwN p xs ys 0).2 = [fone p] := ⟨rfl, rfl⟩
theorem nw_succ {p : Nat} {xs ys : List Nat} {n : Nat} {S Z : List Nat} (h1 : S = (nwN p xs ys n).1) (h2 : Z = (nwN p xs ys n).2) :
    linN p S Z (fmul p (fsub p (nthN ys n) (evN p S (nthN xs n))) (invV p (evN p Z (nthN xs n)))) = (nwN p xs ys (n + 1)).1 ∧ mulN p Z [fsub p 0 (nthN xs n), fone p] = (nwN p xs ys (n + 1)).2 := by
  rw [h1, h2]; exact ⟨rfl, rfl⟩
theorem pair_lt {p a b : Nat} (ha : a < p) (hb : b < p) : ∀ c ∈ [a, b], c < p := by
  intro c hc; simp at hc; rcases hc with rfl | rfl <;> assumption

set_option maxRecDepth 100000 in
set_option maxHeartbeats 2000000 in
theorem through_any (p : Nat) (A B : Option Addr) (L Y : List Nat) (ca cb : Nat) (w : World) (hp : 2 ≤ p) (hp2 : p ≤ 2147483648) (hA : NatsAt w A L) (hB : NatsAt w B Y) (hL : ∀ y ∈ L, y < p) (hY : ∀ y ∈ Y, y < p)
    (hl : L.length ≤ 1048576) :
    Calls Tryd.prog 63 #[.int .i64 p, .slice A L.length ca, .slice B Y.length cb] w (ListErr (thR p L Y) (itE L Y) w) := by
  have hp1 : 1 ≤ p := by omega
  have hmx : Tryd.prog.follows .mixedOrders = true := by kernel_rfl
  by_cases hlen : L.length = Y.length
  · have t1 : ((L.length : Int) != (Y.length : Int)) = false := by simp; omega
    have hck := check_any A L ca w hA (by omega) (fun x hx => by have := hL x hx; omega)
    have hE := itE_len hlen
    have hle : L.length ≤ Y.length := by omega
    have hle2 : Y.length ≤ L.length := by omega
    by_cases h0 : ckE L = 0
    · have HR := Lib.hid (thR_ok (p := p) (hE.trans h0))
      rw [hE, h0]
      rw [h0] at hck
      have HC := Lib.hid hck
      have HA := Lib.hid hA
      have HB := Lib.hid hB
      have HL := Lib.hid (nthN_lt hp1 hL)
      have HY := Lib.hid (nthN_lt hp1 hY)
      have hof := fone_lt hp1
      have HNL := Lib.hid (nwN_lt hp1 L Y)
      have HNN := Lib.hid (nwN_len p L Y)
      clear hlen hA hB hL hY hck h0 hE
      go_enter Tryd.func63, Tryd.ntmps63
      go_wp2_with fail
      refine ret_below HC.out ?_
      intro w1 hb1
      go_wp2_with fail
      refine ret_pure (elem_one p _ hp1 hp2) ?_
      go_wp2_with fail
      have hb2 := below_trans hb1 (below_alloc w1 (.cells #[.int .i64 (fone p : Nat)] 3))
      have hZ0 := (lit1_nats w1 (fone p)).nats
      go_loopw [9, 10, 30] (fun o z i wr => ∃ (k : Nat) (S Z : List Nat) (A1 A2 : Option Addr) (c1 c2 : Nat), k ≤ L.length ∧ i = .int .i64 k ∧ o = .slice A1 S.length c1 ∧ z = .slice A2 Z.length c2 ∧
        S = (nwN p L Y k).1 ∧ Z = (nwN p L Y k).2 ∧ NatsAt wr A1 S ∧ SlOK A1 c1 S ∧ NatsAt wr A2 Z ∧ Below w.heap.size w wr) (fun _ _ i _ => L.length - (intOf i).toNat)
      case atStart => exact ⟨0, [], [fone p], none, _, 0, 1, Nat.zero_le _, rfl, rfl, rfl, rfl, rfl, NatsAt.nil _ _, SlOK.none0, hZ0, hb2⟩
      case round =>
        obtain ⟨k, S, Z, A1, A2, c1, c2, hk, rfl, rfl, rfl, hS, hZ, hSN, hSO, hZN, hbr⟩ := hrel
        have hsl : S.length ≤ k := by rw [hS]; exact (HNN.out k).1
        have hzl : Z.length ≤ k + 1 := by rw [hZ]; exact (HNN.out k).2
        have HSp : Hid (∀ c ∈ S, c < p) := by rw [hS]; exact (HNL.out k).1
        have HZp : Hid (∀ c ∈ Z, c < p) := by rw [hZ]; exact (HNL.out k).2
        have HNW := Lib.hid (nw_succ hS hZ)
        have HS := Lib.hid hS
        have HSN := Lib.hid hSN
        have HSO := Lib.hid hSO
        have HZN := Lib.hid hZN
        clear hS hZ hSN hSO hZN hZ0 hb2
        by_cases hlt : k < L.length
        · obtain ⟨bA, oA, rfl, hbA, hcA⟩ := (HA.out.below hbr) k hlt
          have hx := HL.out k
          have hy := HY.out k
          go_wp2_with fail
          refine ret_below (eval_any p (nthN L k) A2 Z c2 wr hp1 hp2 hx HZp.out HZN.out (by omega)) ?_
          intro w3 hb3
          have hbw3 := below_trans hbr hb3
          have hev := evN_lt hp1 Z (nthN L k)
          go_wp2_with fail
          refine ret_pure (inverse_any p (evN p Z (nthN L k)) _ hp hp2 hev) ?_
          have hiv := invV_lt hp1 (evN p Z (nthN L k))
          obtain ⟨bB, oB, rfl, hbB, hcB⟩ := (HB.out.below hbw3) k (by omega)
          have HS3 := Lib.hid (HSN.out.below hb3)
          have HZ3 := Lib.hid (HZN.out.below hb3)
          have hes := evN_lt hp1 S (nthN L k)
          have hfs := fsub_lt hp1 (nthN Y k) (evN p S (nthN L k))
          have hfm := fmul_lt hp1 (fsub p (nthN Y k) (evN p S (nthN L k))) (invV p (evN p Z (nthN L k)))
          have i1 : (0 : Int) ≤ (k : Int) := by omega
          have i2 : (k : Int) < (Y.length : Int) := by omega
          go_wp2_with fail
          go_region_held3 (fun w' => w'.cell? ⟨bB, oB + k, none⟩ = some (.int .i64 (nthN Y k : Nat))) (first | go_keep)
            (first
              | (go_at_call 67; refine (eval_any p (nthN L k) A1 S c1 _ hp1 hp2 hx HSp.out (by exact HS3.out) (by omega)).mono ?_; rintro e w4 ⟨rfl, hb4⟩; have k4 := (hb4.cell (p := ⟨bB, oB + k, none⟩) hbB).trans hcB)
              | (go_at_call 77; refine ret_pure (sub_nat p _ _ _ hp1 hp2 hy hes) ?_)
              | (go_at_call 71; refine ret_pure (mul_nat p _ _ _ hp1 hp2 hfs hiv) ?_)
              | (go_at_call 60; refine (linear_any p A1 A2 S Z c1 c2 _ _ hp1 hp2 (by exact HS3.out.below (below_undrew1 hb4)) (by exact HZ3.out.below (below_undrew1 hb4)) HSp.out HZp.out hfm (by omega) (by omega)).mono ?_; rintro e w5 ⟨g, rfl, hg, hB5, hb5⟩; have k5 := (hb5.cell (p := ⟨bB, oB + k, none⟩) (Nat.lt_of_lt_of_le hbB hb4.size)).trans k4))
          have hb34 : Below w3.heap.size w3 w4 := below_undrew1 hb4
          have hb45 : Below w4.heap.size w4 w5 := hb5
          have hbw5 := below_trans hbw3 (below_trans hb34 hb45)
          have HZ5 := Lib.hid ((HZ3.out.below hb34).below hb45)
          have HB5 := Lib.hid hB5
          have HLN := Lib.hid (linN_len p S Z (fmul p (fsub p (nthN Y k) (evN p S (nthN L k))) (invV p (evN p Z (nthN L k)))))
          clear hB5 hb5 hb4 hb45 hb34 k4 k5 hg hcB hcA HS3 HZ3
          go_wp2_with fail
          refine ret_pure (sub_zero_nat p (nthN L k) _ hp1 hp2 hx) ?_
          go_wp2_with fail
          refine ret_pure (elem_one p _ hp1 hp2) ?_
          go_wp2_with fail
          have hf0 := fsub_lt hp1 0 (nthN L k)
          refine (pmul_any p A2 (some ⟨w5.heap.size, 0, none⟩) Z [fsub p 0 (nthN L k), fone p] c2 2 _ hp1 hp2 (by exact HZ5.out.alloc _) (by exact (lit2_nats w5 _ _).nats) HZp.out (pair_lt hf0 hof) (by omega) (by simp)).mono ?_
          intro e w6 hnl
          obtain ⟨A6, c6, rfl, hN6, hS6, -, hb6⟩ := hnl.open_
          have hb56 : Below w5.heap.size w5 w6 := below_of_alloc (hb6.mono (by simp)) (Nat.le_refl _)
          have HX := Lib.hid (And.intro hN6 (HB5.out.below hb56).nats)
          have HL2 := Lib.hid (below_trans hbw5 hb56)
          clear hnl hN6 hb6 hb56
          go_wp2_with fail
          go_roundw
          case rel =>
            refine ⟨k + 1, _, _, _, A6, _, c6, by omega, by go_num, rfl, rfl, HNW.out.1, HNW.out.2, HX.out.2, SlOK.own HB5.out (by rw [HLN.out]; unfold maxLen; omega), HX.out.1, HL2.out⟩
          case measure => simp [intOf]; omega
        · obtain rfl : k = L.length := by omega
          have hth : shN S = thN p L Y := by rw [HS.out]; rfl
          have HTH := Lib.hid hth
          clear hth
          go_wp2_with fail
          refine (short_any A1 S c1 wr HSN.out HSO.out (by omega)).mono ?_
          intro e w6 hnl
          obtain ⟨A6, c6, rfl, hN6, hS6, hBd, hb6⟩ := hnl.open_
          have HX := Lib.hid (And.intro hN6 (And.intro hS6 (And.intro hBd (below_trans hbr hb6))))
          have hz6 := hbr.size
          clear hnl hN6 hS6 hBd hb6
          go_wp2_with fail
          go_ret2
          rw [HR.out, ← HTH.out]
          exact ⟨A6, c6, rfl, HX.out.1, HX.out.2.1, fun b off e => ⟨Nat.le_trans hz6 (HX.out.2.2.1 b off e).1, (HX.out.2.2.1 b off e).2⟩, HX.out.2.2.2⟩
    · have HR := Lib.hid (thR_no (p := p) (xs := L) (ys := Y) (by rw [hE]; exact h0))
      rw [hE]
      have HC := Lib.hid hck
      have t2 : (ckE L != 0) = true := by simp; exact h0
      clear h0 hck hA hB hL hY hE hlen
      go_enter Tryd.func63, Tryd.ntmps63
      go_wp2_with fail
      refine ret_below HC.out ?_
      intro w1 hb1
      go_wp2_with fail
      go_ret2
      rw [HR.out]
      exact ListErr.nil _ hb1
  · have t1 : ((L.length : Int) != (Y.length : Int)) = true := by simp; omega
    have hE := itE_no hlen
    have HR := Lib.hid (thR_no (p := p) (xs := L) (ys := Y) (by rw [hE]; omega))
    rw [hE]
    clear hA hB hL hY hE hlen
    go_enter Tryd.func63, Tryd.ntmps63
    go_wp2_with fail
    go_ret2
    rw [HR.out]
    exact ListErr.nil _ (Below.refl _ _)
end Go.Proofs.YtkjpnhhkebbmdaaDoor
