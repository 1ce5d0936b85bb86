/-
  Polynomials: weights of places and values between points, by the document.
  Polynomials: the one through points, by the program.
  Dice and lists while a statement runs; appends to rows of the own; elements of dice.
  Fields: the test of Miller and Rabin, which primes are permitted; inverses and powers.
  Fields: which primes are permitted; inverses and powers.
  Which numbers are prime by the document, which lists are of elements.
  Every prime passes the program's test.
  Shares: what lists of shares are in memory; plans; which lists are of elements.
  Shares: which ones stand in a plan, which lists are good.
  Shares: which lists are good.
  Shares: which lists are good, by the document.
  Shares of elements: as natural numbers; their holders, their values at a place.
  Conditions: those that each theorem names.
-/
import Derived.Test.YtlhipgejiacklaaDoorM2
import Derived.Deep.RegionHeld3
import Derived.Maps.AppendAt
import Derived.Conc.MuLone
set_option linter.unusedVariables false
set_option linter.unusedSimpArgs false
namespace Go.Proofs.YtlhipgejiacklaaDoor
open Go.RowKit

theorem one_tmod (p : Nat) (hp : 1 ≤ p) : (1 : Int).tmod (p : Int) = (fone p : Nat) := by
  rw [Int.tmod_eq_emod_of_nonneg (by omega)]; rfl
theorem mul_tmod {p a b : Nat} : ((a : Int) * (b : Int)).tmod (p : Int) = (fmul p a b : Nat) := by
  rw [← Int.natCast_mul, Int.tmod_eq_emod_of_nonneg (by omega)]; rfl
theorem mul_wrap {p a b : Nat} (ha : a < p) (hb : b < p) (hp2 : p ≤ 2147483648) : IntKind.i64.wrap ((a : Int) * (b : Int)) = (a : Int) * (b : Int) := by
  have h := mulN_bound ha hb hp2
  have q1 : (a : Int) * (b : Int) = (a * b : Nat) := by push_cast; rfl
  exact IntWalk.i64_in _ (by omega)
theorem wsN_take {p : Nat} {L : List Nat} {x k : Nat} (h : k < L.length) : (wsN p L x).take (k + 1) = (wsN p L x).take k ++ [wN p L k x] := by
  have hk : k < (wsN p L x).length := by rw [wsN_len]; exact h
  rw [List.take_succ_eq_append_getElem hk, ← nthN_eq hk, wsN_nth p L x h]

set_option maxRecDepth 100000 in
set_option maxHeartbeats 2000000 in
theorem refWeights_any (p : Nat) (A : Option Addr) (L : List Nat) (cap x : Nat) (w : World) (hp : PrimeN p) (hp2 : p ≤ 2147483648) (hN : NatsAt w A L) (hS : SlOK A cap L) (hL : ∀ y ∈ L, y < p) (hl : L.length ≤ 1073741824) (hx : x < p) :
    Calls Tryd.prog 78 #[.int .i64 p, .slice A L.length cap, .int .i64 x] w (ListErr (wsR p L x) (ckE L) w) := by
  have hp2' := hp.1
  have hp1 : 1 ≤ p := by omega
  have t2 : ((p : Int) == 0) = false := by simp; omega
  have t3 : ¬ (p : Int) = 0 := by omega
  have hmx : Tryd.prog.follows .mixedOrders = true := by kernel_rfl
  have hpl := places_any A L cap w hN hS
  by_cases hz : L.length = 0
  · have t1 : ((L.length : Int) == 0) = true := by simp [hz]
    have hc : ckE L = 1 := ckE_zero hz
    have HR := Lib.hid (wsR_no (p := p) (x := x) (show ¬ ckE L = 0 by rw [hc]; omega))
    have HC := Lib.hid hc
    clear hz hc hpl hN hS hL
    go_enter Tryd.func78, Tryd.ntmps78
    go_wp2_with fail
    go_ret2
    rw [HR.out, HC.out]
    exact ListErr.nil _ (Below.refl _ _)
  · have t1 : ((L.length : Int) == 0) = false := by simp; exact fun e => hz (by rw [e]; rfl)
    have hck := ckE_pos hz
    rw [← hck] at hpl
    by_cases h0 : ckE L = 0
    · have HR := Lib.hid (wsR_ok (p := p) (x := x) h0)
      rw [h0] at hpl ⊢
      have HC := Lib.hid hpl
      have HN := Lib.hid hN
      have HL := Lib.hid (nthN_lt hp1 hL)
      have HLN := Lib.hid (wsN_len p L x)
      have HP := Lib.hid hp
      have ho1 := one_tmod p hp1
      have ho2 : (1 : Int) % (p : Int) = (fone p : Nat) := rfl
      have hof := fone_lt hp1
      clear h0 hpl hck hz hN hS hL hp
      go_enter Tryd.func78, Tryd.ntmps78
      go_wp2_with fail
      refine ret_pure HC.out ?_
      go_wp2_with fail
      go_loopw [9, 28] (fun l i wr => ∃ (k : Nat) (T : List Nat), k ≤ L.length ∧ i = .int .i64 k ∧ T = (wsN p L x).take k ∧ wr.ownsRow w.heap.size 3 1 l T.length (valsN T) ∧ Below w.heap.size w wr) (fun _ i _ => L.length - (intOf i).toNat)
      case atStart => exact ⟨0, [], by omega, rfl, rfl, World.ownsRow_nil _ _ _ _, Below.refl _ _⟩
      case round =>
        obtain ⟨i, T, hi, rfl, hT, hown, hbr⟩ := hrel
        have hTl : T.length ≤ i := by rw [hT]; exact List.length_take_le _ _
        have HT := Lib.hid hT
        clear hT
        by_cases hlt : i < L.length
        · obtain ⟨bA, oA, rfl, hbA, hcA⟩ := (HN.out.below hbr) i hlt
          have hxi := HL.out i
          have HHI := Lib.hid hlt
          go_wp2_with fail
          go_quiet (fail)
          go_wp2_with fail
          have hbr' := below_drewN hbr nq
          have hown' := own_below hown (below_drewN (Below.refl _ wr) nq)
          generalize wr.drewN nq = wo at *
          clear hown hbr hcA
          rename_i _ _
          go_loopw [12, 13, 39] (fun a b j wr => ∃ (k a' b' : Nat), k ≤ L.length ∧ j = .int .i64 k ∧ a = .int .i64 a' ∧ b = .int .i64 b' ∧ a' < p ∧ b' < p ∧ a' = topN p i x L k ∧ b' = topN p i (nthN L i) L k ∧ Below wo.heap.size wo wr) (fun _ _ j _ => L.length - (intOf j).toNat)
          case atStart => exact ⟨0, fone p, fone p, Nat.zero_le _, rfl, rfl, rfl, fone_lt hp1, fone_lt hp1, rfl, rfl, Below.refl _ _⟩
          case round =>
            obtain ⟨k, a, b, hk, rfl, rfl, rfl, ha, hb, hae, hbe, hbr2⟩ := hrel
            have HAE := Lib.hid hae
            have HBE := Lib.hid hbe
            clear hae hbe
            have hbw := below_trans hbr' hbr2
            by_cases hlt2 : k < L.length
            · obtain ⟨bA', oA', e', hbA2, hcA2⟩ := (HN.out.below hbw) k hlt2
              injection e' with e'; injection e' with e1 e2; subst e1; subst e2
              by_cases hki : k = i
              · have t4 : ((i : Int) != (k : Int)) = false := by simp; omega
                have HKI := Lib.hid hki
                clear hki
                go_wp2_with fail
                go_roundw
                case rel => exact ⟨k + 1, a, b, by omega, by go_num, rfl, rfl, ha, hb, by rw [topN_skip HKI.out]; exact HAE.out, by rw [topN_skip HKI.out]; exact HBE.out, hbr2⟩
                case measure => simp [intOf]; omega
              · have t4 : ((i : Int) != (k : Int)) = true := by simp; omega
                have HKI := Lib.hid hki
                clear hki
                have hy := HL.out k
                have hs1 := fsub_lt hp1 x (nthN L k)
                have hs2 := fsub_lt hp1 (nthN L i) (nthN L k)
                have m1 := mul_tmod (p := p) (a := a) (b := fsub p x (nthN L k))
                have m2 := mul_tmod (p := p) (a := b) (b := fsub p (nthN L i) (nthN L k))
                have w1 := mul_wrap ha hs1 hp2
                have w2 := mul_wrap hb hs2 hp2
                go_wp2_with fail
                go_quiet ((go_at_call 100; exact Calls.quiet_of_same (refSub_nat p _ _ _ hp1 hp2 (by assumption) (by assumption))))
                go_wp2_with fail
                go_roundw
                case rel => exact ⟨k + 1, fmul p a (fsub p x (nthN L k)), fmul p b (fsub p (nthN L i) (nthN L k)), by omega, by go_num, rfl, rfl, fmul_lt hp1 _ _, fmul_lt hp1 _ _, by rw [topN_go HKI.out, HAE.out], by rw [topN_go HKI.out, HBE.out], below_drewN hbr2 _⟩
                case measure => simp [intOf]; omega
            · obtain rfl : k = L.length := by omega
              have HW := Lib.hid (wN_of HAE.out HBE.out)
              have hil := invV_lt hp1 b
              have m1 := mul_tmod (p := p) (a := a) (b := invV p b)
              have w1 := mul_wrap ha hil hp2
              have hown2 := own_below hown' hbr2
              have hbs := hbw.size
              clear hown'
              go_wp2_with fail
              refine ret_pure (refInverse_any p b _ HP.out hp2 hb) ?_
              go_wp2_with (at_builtin; refine app_one rfl (.tmp 70) (.tmp 76) 22 rfl (base := w.heap.size) Tryd.underlying22 info_int rfl rfl hown2 rfl rfl (by simp only [maxLen]; omega) (by omega) hbs ?_; intro v4 w4 hown4 hg4 hb4)
              have HH := Lib.hid (hbw.trans hb4)
              go_roundw
              case rel =>
                refine ⟨i + 1, T ++ [wN p L i x], by omega, by go_num, by rw [HT.out]; exact (wsN_take HHI.out).symm, ?_, HH.out⟩
                rw [← HW.out]
                simpa [valsN] using hown4
              case measure => simp [intOf]; omega
        · obtain rfl : i = L.length := by omega
          have hE : T = wsN p L x := by rw [HT.out]; exact List.take_of_length_le (by rw [HLN.out]; exact Nat.le_refl _)
          obtain ⟨C, c, rfl, h1, h2, h3⟩ := own_sl hown rfl
          have HE := Lib.hid hE
          clear hE hown
          go_wp2_with fail
          go_ret2
          rw [HR.out, ← HE.out]
          exact ⟨C, c, rfl, h1, h2, h3, hbr⟩
    · have HR := Lib.hid (wsR_no (p := p) (x := x) h0)
      have HC := Lib.hid hpl
      have t4 : (ckE L != 0) = true := by simp; exact h0
      clear h0 hpl hck hz hN hS hL
      go_enter Tryd.func78, Tryd.ntmps78
      go_wp2_with fail
      refine ret_pure HC.out ?_
      go_wp2_with fail
      go_ret2
      rw [HR.out]
      exact ListErr.nil _ (Below.refl _ _)

theorem wgN_step {p : Nat} {W Y : List Nat} {k v : Nat} (h : v = wgN p W Y k) : (v + nthN W k * nthN Y k) % p = wgN p W Y (k + 1) := by rw [mul_ref, h]; rfl
set_option maxRecDepth 100000 in
set_option maxHeartbeats 1000000 in
theorem refInterpolate_any (p : Nat) (A B : Option Addr) (L Y : List Nat) (ca cb x : Nat) (w : World) (hp : PrimeN p) (hp2 : p ≤ 2147483648) (hA : NatsAt w A L) (hS : SlOK A ca L) (hB : NatsAt w B Y) (hL : ∀ y ∈ L, y < p) (hY : ∀ y ∈ Y, y < p)
    (hl : L.length ≤ 1073741824) (hl2 : Y.length ≤ 1073741824) (hx : x < p) :
    Calls Tryd.prog 66 #[.int .i64 p, .slice A L.length ca, .slice B Y.length cb, .int .i64 x] w (RetB (.tuple #[.int .i64 (itV p L Y x : Nat), .int .i64 (itE L Y)]) w) := by
  have hp2' := hp.1
  have hp1 : 1 ≤ p := by omega
  have t2 : ((p : Int) == 0) = false := by simp; omega
  have t3 : ¬ (p : Int) = 0 := by omega
  by_cases hz : L.length = 0
  · have t1 : ((L.length : Int) == 0) = true := by simp [hz]
    have hE : itE L Y = 1 := by
      by_cases h : L.length = Y.length
      · rw [itE_len h, ckE_zero hz]
      · exact itE_no h
    have HV := Lib.hid (itV_no (p := p) (x := x) (show ¬ itE L Y = 0 by rw [hE]; omega))
    have HE := Lib.hid hE
    clear hz hE hA hS hB hL hY
    go_enter Tryd.func66, Tryd.ntmps66
    go_wp2_with fail
    go_ret2
    exact pairB (x := 0) HV.out.symm HE.out.symm (Below.refl _ _)
  · have t1 : ((L.length : Int) == 0) = false := by simp; exact fun e => hz (by rw [e]; rfl)
    by_cases hlen : L.length = Y.length
    · have t4 : ((L.length : Int) != (Y.length : Int)) = false := by simp; omega
      have hws := refWeights_any p A L ca x w hp hp2 hA hS hL hl hx
      have hE := itE_len hlen
      have HLY := Lib.hid hlen
      have hle : L.length ≤ Y.length := by omega
      have hle2 : Y.length ≤ L.length := by omega
      have HB := Lib.hid hB
      have HY := Lib.hid (nthN_lt hp1 hY)
      clear hlen hA hS hB hL hY hz
      by_cases h0 : ckE L = 0
      · rw [wsR_ok h0, h0] at hws
        have HW := Lib.hid hws
        have HE0 := Lib.hid (hE.trans h0)
        have HV := Lib.hid (itV_ok (p := p) (x := x) HE0.out)
        have HLN := Lib.hid (wsN_len p L x)
        have HWL := Lib.hid (nthN_lt hp1 (wsN_lt hp1 L x))
        clear hws h0 hE
        go_enter Tryd.func66, Tryd.ntmps66
        go_wp2_with fail
        refine HW.out.mono ?_
        rintro e w1 ⟨C, c, rfl, hC, hS, hCb, hb1⟩
        have HC := Lib.hid hC
        have HB1 := Lib.hid (HB.out.below hb1)
        have HLN' := HLN.out
        generalize wsN p L x = W at *
        have hwl1 : W.length ≤ L.length := by omega
        have hwl2 : L.length ≤ W.length := by omega
        clear HLN' hC hCb HB HW
        go_wp2_with fail
        go_loop [12, 37] (fun v i => ∃ (k v' : Nat), k ≤ Y.length ∧ i = .int .i64 k ∧ v = .int .i64 v' ∧ v' < p ∧ v' = wgN p W Y k) (fun _ i => Y.length - (intOf i).toNat)
        case atStart => exact ⟨0, 0, Nat.zero_le _, rfl, rfl, hp1, rfl⟩
        case round =>
          obtain ⟨k, v, hk, rfl, rfl, hv, hve⟩ := hrel
          have HVE := Lib.hid hve
          clear hve
          by_cases hlt : k < Y.length
          · obtain ⟨bB, oB, rfl, hbB, hcB⟩ := HB1.out k hlt
            obtain ⟨bC, oC, rfl, hbC, hcC⟩ := HC.out k (by omega)
            have h1 := HWL.out k
            have h2 := HY.out k
            have hbd := mulN_bound h1 h2 hp2
            have q1 : (nthN W k : Int) * (nthN Y k : Int) = (nthN W k * nthN Y k : Nat) := by push_cast; rfl
            have w1 : IntKind.i64.wrap ((nthN W k : Int) * (nthN Y k : Int)) = (nthN W k : Int) * (nthN Y k : Int) := IntWalk.i64_in _ (by omega)
            have w2 : IntKind.i64.wrap ((v : Int) + (nthN W k : Int) * (nthN Y k : Int)) = (v : Int) + (nthN W k : Int) * (nthN Y k : Int) := IntWalk.i64_in _ (by omega)
            have r1 : ((v : Int) + (nthN W k : Int) * (nthN Y k : Int)).tmod p = (wgN p W Y (k + 1) : Nat) := by
              rw [q1, ← Int.natCast_add, Int.tmod_eq_emod_of_nonneg (by omega), ← Int.natCast_emod, wgN_step HVE.out]
            have hlw := wgN_lt hp1 W Y (k + 1)
            clear q1 hbd
            go_wp2_with fail
            go_round
            case rel => exact ⟨k + 1, _, by omega, by go_num, rfl, hlw, rfl⟩
            case measure => simp [intOf]; omega
          · obtain rfl : k = Y.length := by omega
            go_wp2_with fail
            go_ret2
            exact pairB (by rw [HV.out, HVE.out, HLY.out]) HE0.out.symm hb1
      · have HV := Lib.hid (itV_no (p := p) (x := x) (show ¬ itE L Y = 0 by rw [hE]; exact h0))
        rw [wsR_no h0] at hws
        have HW := Lib.hid hws
        have HE := Lib.hid hE
        have t5 : (ckE L != 0) = true := by simp; exact h0
        clear hws h0 hE
        go_enter Tryd.func66, Tryd.ntmps66
        go_wp2_with fail
        refine HW.out.mono ?_
        rintro e w1 ⟨C, c, rfl, hC, hS, hCb, hb1⟩
        go_wp2_with fail
        go_ret2
        exact pairB (x := 0) HV.out.symm HE.out.symm hb1
    · have t4 : ((L.length : Int) != (Y.length : Int)) = true := by simp; omega
      have hE := itE_no hlen
      have HV := Lib.hid (itV_no (p := p) (x := x) (show ¬ itE L Y = 0 by rw [hE]; omega))
      have HE := Lib.hid hE
      clear hlen hA hS hB hL hY hE hz
      go_enter Tryd.func66, Tryd.ntmps66
      go_wp2_with fail
      go_ret2
      exact pairB (x := 0) HV.out.symm HE.out.symm (Below.refl _ _)
end Go.Proofs.YtlhipgejiacklaaDoor
namespace Go.Proofs.YtlhipgejiacklaaDoor
open Go.RowKit

theorem below_undrew {B n : Nat} {w w' : World} (h : Below B (w.drewN n) w') : Below B w w' := ⟨h.os, h.tape, h.output, h.size, h.block⟩
theorem below_undrew1 {B : Nat} {w w' : World} (h : Below B w.drew w') : Below B w w' := ⟨h.os, h.tape, h.output, h.size, h.block⟩
theorem sub_zero_nat (p x : Nat) (w : World) (hp : 1 ≤ p) (hp2 : p ≤ 2147483648) (hx : x < p) : Calls Tryd.prog 107 #[.int .i64 p, .int .i64 0, .int .i64 x] w (Ret (.int .i64 (fsub p 0 x : Nat)) w) :=
  sub_nat p 0 x w hp hp2 (by omega) hx
theorem lit1_nats (w : World) (a : Nat) : NatBlk (w.alloc (.cells #[.int .i64 (a : Int)] 3)) w.heap.size [a] := heap_alloc_new w _
theorem lit2_nats (w : World) (a b : Nat) : NatBlk (w.alloc (.cells #[.int .i64 (a : Int), .int .i64 (b : Int)] 3)) w.heap.size [a, b] := heap_alloc_new w _
def thR (p : Nat) (xs ys : List Nat) : List Nat := if itE xs ys = 0 then thN p xs ys else []
theorem thR_ok {p : Nat} {xs ys : List Nat} (h : itE xs ys = 0) : thR p xs ys = thN p xs ys := if_pos h
theorem thR_no {p : Nat} {xs ys : List Nat} (h : ¬ itE xs ys = 0) : thR p xs ys = [] := if_neg h
theorem nw_zero (p : Nat) (xs ys : List Nat) : (nwN p xs ys 0).1 = [] ∧ (nwN p xs ys 0).2 = [fone p] := ⟨rfl, rfl⟩
theorem nw_succ {p : Nat} {xs ys : List Nat} {n : Nat} {S Z : List Nat} (h1 : S = (nwN p xs ys n).1) (h2 : Z = (nwN p xs ys n).2) :
    linN p S Z (fmul p (fsub p (nthN ys n) (evN p S (nthN xs n))) (invV p (evN p Z (nthN xs n)))) = (nwN p xs ys (n + 1)).1 ∧ mulN p Z [fsub p 0 (nthN xs n), fone p] = (nwN p xs ys (n + 1)).2 := by
  rw [h1, h2]; exact ⟨rfl, rfl⟩
theorem pair_lt {p a b : Nat} (ha : a < p) (hb : b < p) : ∀ c ∈ [a, b], c < p := by
  intro c hc; simp at hc; rcases hc with rfl | rfl <;> assumption

end Go.Proofs.YtlhipgejiacklaaDoor
namespace Go.Proofs.YtlhipgejiacklaaDoor
open Go.RowKit

/-- A list that lies somewhere, not in the dice. -/
structure Held (w : World) (D : Nat) (A : Option Addr) (c : Nat) (L : List Nat) : Prop where
  nats : NatsAt w A L
  ok : SlOK A c L
  off : ∀ b off, A = some ⟨b, off, none⟩ → b ≠ D
theorem Held.mv {w w' : World} {D : Nat} {A : Option Addr} {c : Nat} {L : List Nat} (h : Held w D A c L) (g : w.grownBy w' (some D)) : Held w' D A c L := ⟨h.nats.grown g h.off, h.ok, h.off⟩
theorem Held.below {w w' : World} {D : Nat} {A : Option Addr} {c : Nat} {L : List Nat} (h : Held w D A c L) (hb : Below w.heap.size w w') : Held w' D A c L := h.mv (grown_of_below hb)
/-- The dice, and what was there when the statement began. -/
structure Env (w0 w : World) (D : Nat) (R : List Int) : Prop where
  dice : DiceAt w D R
  low : w0.heap.size ≤ D
  below : Below w0.heap.size w0 w
theorem Env.lt {w0 w : World} {D : Nat} {R : List Int} (h : Env w0 w D R) : D < w.heap.size := h.dice.lt
theorem Env.mv {w0 w w' : World} {D : Nat} {R : List Int} (h : Env w0 w D R) (hb : Below w.heap.size w w') : Env w0 w' D R := ⟨h.dice.below hb, h.low, below_trans h.below hb⟩
theorem Env.next {w0 w w' : World} {D : Nat} {R R' : List Int} (h : Env w0 w D R) (hd : DiceAt w' D R') (g : w.grownBy w' (some D)) : Env w0 w' D R' :=
  ⟨hd, h.low, h.below.trans (grown_below g h.low h.below.size)⟩
theorem held_new {w w' : World} {D : Nat} {A : Option Addr} {c : Nat} {L : List Nat} (hD : D < w.heap.size) (hN : NatsAt w' A L) (hS : SlOK A c L) (hb : ∀ b off, A = some ⟨b, off, none⟩ → w.heap.size ≤ b ∧ b < w'.heap.size) : Held w' D A c L :=
  ⟨hN, hS, fun b off e => by have := hb b off e; omega⟩
def NextN (D : Nat) (n : Int) (R : List Int) (w : World) (e : Ending) (w' : World) : Prop := ∃ m : Nat, e = .returned (.int .i64 (m : Int)) ∧ (m : Int) < n ∧ DiceAt w' D R.tail ∧ w.grownBy w' (some D)
theorem next_nat (D : Nat) (R : List Int) (n : Int) (w : World) (h : DiceAt w D R) (h1 : 1 ≤ n) (hn : n ≤ 4611686018427387904) :
    Calls Tryd.prog 19 #[.pointer (some ⟨D, 0, none⟩), .int .i64 n] w (NextN D n R w) := by
  refine (next_any D R n w h hn).mono ?_
  rintro e w1 ⟨rfl, hD1, hg1⟩
  obtain ⟨x1, x2⟩ := nextV_range R n h1
  exact ⟨(nextV R n).toNat, by rw [Int.toNat_of_nonneg x1], by omega, hD1, hg1⟩
theorem elems_held {D n p : Nat} {w w' : World} {e : Ending} (hD : D < w.heap.size) (h : ElemsP D n p w e w') :
    ∃ A c L R', e = .returned (.slice A L.length c) ∧ L.length = n ∧ (∀ x ∈ L, x < p) ∧ Held w' D A c L ∧ DiceAt w' D R' ∧ w.grownBy w' (some D) := by
  obtain ⟨v, L, R', rfl, hL, hp, hown, hd, hg⟩ := h
  obtain ⟨A, c, rfl, h1, h2, h3⟩ := own_sl hown rfl
  exact ⟨A, c, L, R', rfl, hL, hp, held_new hD h1 h2 h3, hd, hg⟩
/-- A list made before the base of an append stands. -/
theorem NatsAt.app {w0 w w' : World} {A : Option Addr} {L : List Nat} (h0 : NatsAt w0 A L) (h : NatsAt w A L) (hb : Below w0.heap.size w w') : NatsAt w' A L := fun k hk => by
  obtain ⟨b, off, hA, hlt, -⟩ := h0 k hk
  obtain ⟨b', off', hA', hlt', hc⟩ := h k hk
  rw [hA] at hA'; injection hA' with e; injection e with e1 e2; subst e1; subst e2
  exact ⟨b, off, hA, Nat.lt_of_lt_of_le hlt' hb.size, (hb.cell hlt).trans hc⟩
theorem Held.app {w0 w w' : World} {D : Nat} {A : Option Addr} {c : Nat} {L : List Nat} (h0 : NatsAt w0 A L) (h : Held w D A c L) (hb : Below w0.heap.size w w') : Held w' D A c L := ⟨h0.app h.nats hb, h.ok, h.off⟩
theorem Env.app {w0 w w' : World} {D B : Nat} {R : List Int} (h : Env w0 w D R) (hB : D < B) (hb : Below B w w') : Env w0 w' D R :=
  ⟨h.dice.keep fun k hk => hb.block k (by omega), h.low, h.below.trans (hb.mono (by have := h.low; omega))⟩
theorem app_lt {p : Nat} {L M : List Nat} (h : ∀ x ∈ L, x < p) (g : ∀ x ∈ M, x < p) : ∀ x ∈ L ++ M, x < p := fun x hx => (List.mem_append.1 hx).elim (h x) (g x)
theorem own_held {w : World} {base D : Nat} {v : Value} {L : List Nat} (h : w.ownsRow base 3 1 v L.length (valsN L)) (hD : D < base) : ∃ A c, v = .slice A L.length c ∧ Held w D A c L := by
  obtain ⟨A, c, rfl, h1, h2, h3⟩ := own_sl h rfl
  exact ⟨A, c, rfl, h1, h2, fun b off e => by have := h3 b off e; omega⟩
theorem app_nats_at {ops : Array Oper} {rest : List Oper} {o : Oper} {a : Act} {Q : Exit → Act → World → Prop} (hgd : o.guard = none) (s x : Operand)
    (ho : o.op = .call { callee := .builtin .append, args := #[s, x], argTypes := #[22, 22] })
    {base : Nat} {w : World} {v : Value} {S T : List Nat} {ad : Addr} {c : Nat} (hs : a.eval s = v) (hown : w.ownsRow base 3 1 v S.length (valsN S))
    (hx : a.eval x = .slice (some ad) T.length c) (hT : ∀ j u, (valsN T)[j]? = some u → w.cell? (ad.add j) = some u) (hl : S.length + T.length ≤ 4294967296) (hbase : base ≤ w.heap.size)
    (h : ∀ v' w', w'.ownsRow base 3 1 v' (S ++ T).length (valsN (S ++ T)) → w.grownBy w' v.ownBlock → Below base w w' → (v'.ownBlock = v.ownBlock ∨ v'.ownBlock = some w.heap.size) → wpList Tryd.prog ops Q rest (a.put o.dst v') w') :
    wpList Tryd.prog ops Q (o :: rest) a w := by
  obtain ⟨i0, hi, hz0, hz1, hz2⟩ := info_parts info_int
  refine wpList_append_own_at w hgd s x 22 ho base 3 i0 _ 1 8 Tryd.underlying22 hi hz0 hz1 hz2 rfl (by omega) v S.length (valsN S) hs hown _ T.length c (valsN T) hx (by simp [valsN]) hT (valsN_one T) (by unfold maxLen; omega) (by omega) hbase ?_
  intro v' w' h2 h3 _ h5
  refine h v' w' ?_ h3 ((Below.refl _ _).grown h3 hbase (fun k hk => (hown.lt k hk).1)) h5
  rw [List.length_append]; simpa [valsN] using h2
theorem wsR_len (p : Nat) (xs : List Nat) (x : Nat) : (wsR p xs x).length ≤ xs.length := by
  unfold wsR; split
  · rw [wsN_len]; exact Nat.le_refl _
  · exact Nat.zero_le _
theorem thR_len (p : Nat) (xs ys : List Nat) : (thR p xs ys).length ≤ xs.length := by
  unfold thR; split
  · exact thN_len p xs ys
  · exact Nat.zero_le _
theorem sliced_low (A : Option Addr) (h c s : Nat) : sliced A 0 h c s = .slice A h c := by
  unfold sliced
  cases A with
  | none => simp
  | some a => simp [Addr.add]
attribute [local go_sem high] sliced_low
theorem elements_at (D : Nat) (R : List Int) (p n : Nat) (k : Int) (w : World) (hk : k = (n : Int)) (h : DiceAt w D R) (hp : 1 ≤ p) (hp2 : p ≤ 2147483648) (hn : n ≤ 1048576) :
    Calls Tryd.prog 21 #[.pointer (some ⟨D, 0, none⟩), .int .i64 p, .int .i64 k] w (ElemsP D n p w) := by
  subst hk; exact elements_any D R p n w h hp hp2 hn
theorem shN_lt' {p : Nat} {L : List Nat} (h : ∀ x ∈ L, x < p) : ∀ x ∈ shN L, x < p := fun x hx => h x (List.mem_of_mem_take hx)
end Go.Proofs.YtlhipgejiacklaaDoor
namespace Go.Proofs.YtlhipgejiacklaaDoor
open Go.RowKit

/-- The odd part of a number, and how often it is halved. -/
def halve : Nat → Nat → Nat × Nat
  | 0, n => (n, 0)
  | f + 1, n => if n % 2 = 0 then ((halve f (n / 2)).1, (halve f (n / 2)).2 + 1) else (n, 0)
theorem halve_mul : ∀ f n, (halve f n).1 * 2 ^ (halve f n).2 = n
  | 0, n => by simp [halve]
  | f + 1, n => by
    unfold halve
    split
    · rename_i h
      simp only [Nat.pow_succ]
      rw [← Nat.mul_assoc, halve_mul f (n / 2)]; omega
    · simp
theorem halve_odd : ∀ f n, 1 ≤ n → n < 2 ^ f → (halve f n).1 % 2 = 1
  | 0, n, h1, h2 => by simp at h2; omega
  | f + 1, n, h1, h2 => by
    unfold halve
    split
    · rename_i h
      exact halve_odd f (n / 2) (by omega) (by rw [Nat.pow_succ] at h2; omega)
    · omega
def mrD (p : Nat) : Nat := (halve 31 (p - 1)).1
def mrS (p : Nat) : Nat := (halve 31 (p - 1)).2
theorem mr_mul (p : Nat) : mrD p * 2 ^ mrS p = p - 1 := halve_mul 31 (p - 1)
theorem mr_odd (p : Nat) (h : 2 ≤ p) (h2 : p ≤ 2147483648) : mrD p % 2 = 1 := halve_odd 31 (p - 1) (by omega) (by omega)
/-- Some of the numbers x^2, x^4 .. (n of them) is p - 1. -/
def mrGo (p : Nat) : Nat → Nat → Bool
  | 0, _ => false
  | n + 1, x => if fmul p x x = p - 1 then true else mrGo p n (fmul p x x)
def mrX (p b : Nat) : Nat := fpow p (b % p) (mrD p)
def mrPass (p b : Nat) : Bool := if mrX p b = 1 ∨ mrX p b = 0 ∨ mrX p b = p - 1 then true else mrGo p (mrS p - 1) (mrX p b)
def vGo (p : Nat) : List Nat → Bool
  | [] => true
  | b :: l => if p = b then true else if p % b = 0 then false else if mrPass p b then vGo p l else false
def validF (p : Nat) : Bool := if p < 2 ∨ 1073741824 < p ∨ (2 < p ∧ p % 2 = 0) then false else vGo p [2, 3, 5, 7]

theorem mr_first (p b : Nat) (h : mrX p b = 1 ∨ mrX p b = 0 ∨ mrX p b = p - 1) : true = mrPass p b := by unfold mrPass; rw [if_pos h]
theorem mr_later (p b : Nat) (h : ¬ (mrX p b = 1 ∨ mrX p b = 0 ∨ mrX p b = p - 1)) : mrGo p (mrS p - 1) (mrX p b) = mrPass p b := by unfold mrPass; rw [if_neg h]
theorem mrGo_yes (p n x : Nat) (h : fmul p x x = p - 1) : mrGo p (n + 1) x = true := by unfold mrGo; rw [if_pos h]
theorem mrGo_no (p n x : Nat) (h : ¬ fmul p x x = p - 1) : mrGo p (n + 1) x = mrGo p n (fmul p x x) := if_neg h
theorem two_pow_pos (k : Nat) : 1 ≤ 2 ^ k := Nat.one_le_two_pow
theorem halfs {d s k o : Nat} (hd : d % 2 = 1) (h : o * 2 ^ k = d * 2 ^ s) (hk : k ≤ s) : (o % 2 = 0 ↔ k < s) := by
  have h1 : o = d * 2 ^ (s - k) := by
    have h2 : d * 2 ^ s = d * 2 ^ (s - k) * 2 ^ k := by rw [Nat.mul_assoc, ← Nat.pow_add, show s - k + k = s by omega]
    rw [h2] at h
    exact Nat.eq_of_mul_eq_mul_right (two_pow_pos k) h
  constructor
  · intro h0
    rcases Nat.lt_or_ge k s with hlt | hge
    · exact hlt
    · rw [h1, show s - k = 0 by omega] at h0; simp at h0; omega
  · intro hlt
    rw [h1, show s - k = (s - k - 1) + 1 by omega, Nat.pow_succ, ← Nat.mul_assoc, Nat.mul_mod_left]
theorem half_step {o k n : Nat} (h : o * 2 ^ k = n) (h0 : o % 2 = 0) : o / 2 * 2 ^ (k + 1) = n := by
  rw [Nat.pow_succ, ← Nat.mul_assoc, Nat.mul_right_comm, show o / 2 * 2 = o by omega, h]

set_option maxHeartbeats 800000 in
theorem passes_any (p b : Nat) (w : World) (hp : 3 ≤ p) (hp2 : p ≤ 2147483647) (hb : b ≤ 1000) :
    Calls Tryd.prog 102 #[.int .i64 p, .int .i64 b] w (Ret (.bool (mrPass p b)) w) := by
  have HD := Lib.hid (mr_odd p (by omega) (by omega))
  have HM := Lib.hid (mr_mul p)
  have hbp : b % p < p := Nat.mod_lt _ (by omega)
  have hxl : mrX p b < p := fpow_lt (by omega) _ _
  have hs31 : mrS p ≤ 62 := by
    rcases Nat.lt_or_ge 62 (mrS p) with h | h
    · have h1 := Nat.pow_le_pow_right (n := 2) (by omega) (Nat.le_of_lt h)
      have h2 : 1 ≤ mrD p := by have := HD.out; omega
      have h3 := Nat.mul_le_mul h2 h1
      rw [HM.out] at h3; omega
    · exact h
  go_enter Tryd.func102, Tryd.ntmps102
  go_wp2_with fail
  go_loop [5, 6] (fun o t => ∃ o' k : Nat, o = .int .i64 o' ∧ t = .int .i64 k ∧ o' * 2 ^ k = p - 1 ∧ k ≤ mrS p ∧ 1 ≤ o' ∧ o' ≤ p) (fun o _ => (intOf o).toNat)
  case atStart => exact ⟨p - 1, 0, by go_num, rfl, by simp, by omega, by omega, by omega⟩
  case round =>
    obtain ⟨o, k, rfl, rfl, hinv, hk, ho1, ho2⟩ := hrel
    have HI := Lib.hid hinv
    clear hinv
    have HH := Lib.hid (halfs HD.out (HI.out.trans HM.out.symm) hk)
    by_cases h0 : o % 2 = 0
    · have hk' := HH.out.1 h0
      have t1 : ((o : Int) % 2 == 0) = true := by simp; omega
      go_wp2_with fail
      go_round
      case rel => exact ⟨o / 2, k + 1, by go_num, by go_num, half_step HI.out h0, by omega, by omega, by omega⟩
      case measure => simp [intOf]; omega
    · have hk' : k = mrS p := Nat.le_antisymm hk (Nat.not_lt.1 fun h => h0 (HH.out.2 h))
      subst hk'
      have ho : o = mrD p := Nat.eq_of_mul_eq_mul_right (two_pow_pos (mrS p)) (HI.out.trans HM.out.symm)
      subst ho
      have t1 : ((mrD p : Int) % 2 == 0) = false := by simp; omega
      go_wp2_with fail
      refine ret_pure (fpower_any p (b % p) (mrD p) _ (by omega) (by omega) hbp (by omega)) ?_
      rw [show fpow p (b % p) (mrD p) = mrX p b from rfl]
      by_cases hx : mrX p b = 1 ∨ mrX p b = 0 ∨ mrX p b = p - 1
      · have HP := Lib.hid (mr_first p b hx)
        rcases hx with h | h | h
        · have t2 : ((mrX p b : Int) == 1) = true := by simp; omega
          have HX := Lib.hid h
          clear h
          go_wp2_with fail
          go_ret
          exact Ret.bool HP.out
        · have t2 : ((mrX p b : Int) == 1) = false := by simp; omega
          have t3 : ((mrX p b : Int) == 0) = true := by simp; omega
          have HX := Lib.hid h
          clear h
          go_wp2_with fail
          go_ret
          exact Ret.bool HP.out
        · have t4 : ((mrX p b : Int) == (p : Int) - 1) = true := by simp; omega
          by_cases h1 : mrX p b = 1
          · have t2 : ((mrX p b : Int) == 1) = true := by simp; omega
            have HX := Lib.hid h
            have HX1 := Lib.hid h1
            clear h h1
            go_wp2_with fail
            go_ret
            exact Ret.bool HP.out
          · have t2 : ((mrX p b : Int) == 1) = false := by simp; omega
            have t3 : ((mrX p b : Int) == 0) = false := by simp; omega
            have HX := Lib.hid h
            clear h h1
            go_wp2_with fail
            go_ret
            exact Ret.bool HP.out
      · have HP := Lib.hid (mr_later p b hx)
        have t2 : ((mrX p b : Int) == 1) = false := by simp; omega
        have t3 : ((mrX p b : Int) == 0) = false := by simp; omega
        have t4 : ((mrX p b : Int) == (p : Int) - 1) = false := by simp; omega
        clear hx
        go_wp2_with fail
        generalize hX : mrX p b = X at *
        clear t2 t3 t4 hX
        go_loop [7, 38] (fun x i => ∃ x' m : Nat, x = .int .i64 x' ∧ i = .int .i64 m ∧ x' < p ∧ (m ≤ mrS p - 1) ∧ mrGo p (mrS p - 1 - m) x' = mrPass p b) (fun _ i => 70 - (intOf i).toNat)
        case atStart => exact ⟨X, 0, rfl, rfl, hxl, by omega, HP.out⟩
        case round =>
          obtain ⟨x, m, rfl, rfl, hxp, hm, hgo⟩ := hrel
          have HG := Lib.hid hgo
          clear hgo
          by_cases hlt : (m : Int) < (mrS p : Int) - 1
          · go_wp2_with fail
            refine ret_pure (mul_nat p x x _ (by omega) (by omega) hxp hxp) ?_
            have hfl : fmul p x x < p := fmul_lt (by omega) _ _
            by_cases hq : fmul p x x = p - 1
            · have t5 : ((fmul p x x : Int) == (p : Int) - 1) = true := by simp; omega
              have HR := Lib.hid (show true = mrPass p b by
                rw [← HG.out, show mrS p - 1 - m = (mrS p - 1 - m - 1) + 1 by omega, mrGo_yes p _ x hq])
              clear hq
              go_wp2_with fail
              go_ret
              exact Ret.bool HR.out
            · have t5 : ((fmul p x x : Int) == (p : Int) - 1) = false := by simp; omega
              have HR := Lib.hid (show mrGo p (mrS p - 1 - (m + 1)) (fmul p x x) = mrPass p b by
                rw [← HG.out, show mrS p - 1 - m = (mrS p - 1 - (m + 1)) + 1 by omega, mrGo_no p _ x hq])
              clear hq
              go_wp2_with fail
              go_round
              case rel => exact ⟨fmul p x x, m + 1, rfl, by go_num, hfl, by omega, HR.out⟩
              case measure => simp [intOf]; omega
          · go_wp2_with fail
            go_ret
            refine Ret.bool ?_
            rw [← HG.out, show mrS p - 1 - m = 0 by omega]; rfl
end Go.Proofs.YtlhipgejiacklaaDoor
namespace Go.Proofs.YtlhipgejiacklaaDoor
open Go.RowKit

/-- The table of bases holds 2, 3, 5, 7. -/
def Bases (w : World) : Prop :=
  0 < w.heap.size ∧ w.cell? ⟨0, 0, none⟩ = some (.int .i64 2) ∧ w.cell? ⟨0, 1, none⟩ = some (.int .i64 3) ∧ w.cell? ⟨0, 2, none⟩ = some (.int .i64 5) ∧ w.cell? ⟨0, 3, none⟩ = some (.int .i64 7)
theorem Bases.below {w w' : World} {B : Nat} (h : Bases w) (hb : Below B w w') (hB : 0 < B) : Bases w' := by
  obtain ⟨h0, h1, h2, h3, h4⟩ := h
  exact ⟨Nat.lt_of_lt_of_le h0 hb.size, (hb.cell hB).trans h1, (hb.cell hB).trans h2, (hb.cell hB).trans h3, (hb.cell hB).trans h4⟩
theorem Bases.keep {w w' : World} (h : Bases w) (hb : Below w.heap.size w w') : Bases w' := h.below hb h.1

def validI (p : Int) : Bool := if p < 2 then false else validF p.toNat
theorem validI_small {p : Int} (h : p < 2) : false = validI p := by unfold validI; rw [if_pos h]
theorem validI_nat {p : Nat} (h : 2 ≤ p) : validF p = validI (p : Int) := by unfold validI; rw [if_neg (by omega), Int.toNat_natCast]
theorem validI_big {p : Int} (h : 1073741824 < p) : false = validI p := by
  unfold validI; rw [if_neg (by omega)]; unfold validF; rw [if_pos]; omega
theorem validF_even {p : Nat} (h : 2 < p ∧ p % 2 = 0) : false = validF p := by unfold validF; rw [if_pos (.inr (.inr h))]
theorem validF_go {p : Nat} (h : ¬ (p < 2 ∨ 1073741824 < p ∨ (2 < p ∧ p % 2 = 0))) : vGo p [2, 3, 5, 7] = validF p := by unfold validF; rw [if_neg h]
theorem vGo_eq {p b : Nat} {l : List Nat} (h : p = b) : vGo p (b :: l) = true := if_pos h
theorem vGo_div {p b : Nat} {l : List Nat} (h : ¬ p = b) (h2 : p % b = 0) : vGo p (b :: l) = false := by unfold vGo; rw [if_neg h, if_pos h2]
theorem vGo_pass {p b : Nat} {l : List Nat} (h : ¬ p = b) (h2 : ¬ p % b = 0) (h3 : mrPass p b = true) : vGo p (b :: l) = vGo p l := by
  conv => lhs; unfold vGo
  rw [if_neg h, if_neg h2, if_pos h3]
theorem vGo_fail {p b : Nat} {l : List Nat} (h : ¬ p = b) (h2 : ¬ p % b = 0) (h3 : mrPass p b = false) : vGo p (b :: l) = false := by
  unfold vGo; rw [if_neg h, if_neg h2, if_neg (by rw [h3]; simp)]
def basis (k : Nat) : Nat := [2, 3, 5, 7].getD k 0
theorem basis_drop (k : Nat) (h : k < 4) : [2, 3, 5, 7].drop k = basis k :: [2, 3, 5, 7].drop (k + 1) := by
  have : k = 0 ∨ k = 1 ∨ k = 2 ∨ k = 3 := by omega
  rcases this with rfl | rfl | rfl | rfl <;> rfl
theorem basis_bd (k : Nat) (h : k < 4) : 2 ≤ basis k ∧ basis k ≤ 7 := by
  have : k = 0 ∨ k = 1 ∨ k = 2 ∨ k = 3 := by omega
  rcases this with rfl | rfl | rfl | rfl <;> decide
theorem ib0 (w : World) : (Instr.index 105 (.agg #[.int .i64 2, .int .i64 3, .int .i64 5, .int .i64 7]) (.int .i64 0)).run Tryd.prog w = .ok (.int .i64 2) w := by kernel_rfl
theorem ib1 (w : World) : (Instr.index 105 (.agg #[.int .i64 2, .int .i64 3, .int .i64 5, .int .i64 7]) (.int .i64 1)).run Tryd.prog w = .ok (.int .i64 3) w := by kernel_rfl
theorem ib2 (w : World) : (Instr.index 105 (.agg #[.int .i64 2, .int .i64 3, .int .i64 5, .int .i64 7]) (.int .i64 2)).run Tryd.prog w = .ok (.int .i64 5) w := by kernel_rfl
theorem ib3 (w : World) : (Instr.index 105 (.agg #[.int .i64 2, .int .i64 3, .int .i64 5, .int .i64 7]) (.int .i64 3)).run Tryd.prog w = .ok (.int .i64 7) w := by kernel_rfl
theorem index_bases (k : Nat) (h : k < 4) (w : World) : (Instr.index 105 (.agg #[.int .i64 2, .int .i64 3, .int .i64 5, .int .i64 7]) (.int .i64 k)).run Tryd.prog w = .ok (.int .i64 (basis k : Nat)) w := by
  have : k = 0 ∨ k = 1 ∨ k = 2 ∨ k = 3 := by omega
  rcases this with rfl | rfl | rfl | rfl
  · exact ib0 w
  · exact ib1 w
  · exact ib2 w
  · exact ib3 w

set_option maxHeartbeats 800000 in
theorem valid_mid (p : Nat) (w : World) (hB : Bases w) (h2 : 2 ≤ p) (h3 : p ≤ 1073741824) (hodd : ¬ (2 < p ∧ p % 2 = 0)) :
    Calls Tryd.prog 81 #[.int .i64 p] w (Ret (.bool (validI p)) w) := by
  obtain ⟨_, b0, b1, b2, b3⟩ := hB
  have HV := Lib.hid ((validF_go (by omega)).trans (validI_nat h2))
  have d1 : decide ((p : Int) < 2) = false := decide_eq_false (by omega)
  have d2 : decide (1073741824 < (p : Int)) = false := decide_eq_false (by omega)
  have hs : p = 2 ∨ 3 ≤ p ∧ p % 2 = 1 := by omega
  have hS : Hid (p = 2 ∨ 3 ≤ p ∧ p % 2 = 1) := hs
  have t1 : ((p : Int) % 2 == 0) = decide (p = 2) := by
    rcases hs with h | h
    · subst h; rfl
    · rw [decide_eq_false (by omega)]; simp; omega
  have t0 : decide (2 < (p : Int)) = decide (3 ≤ p) := by
    by_cases h : 3 ≤ p
    · rw [decide_eq_true h, decide_eq_true (by omega)]
    · rw [decide_eq_false h, decide_eq_false (by omega)]
  clear hs
  by_cases hp2 : p = 2
  · subst hp2
    go_enter Tryd.func81, Tryd.ntmps81
    go_wp2_with fail
    refine wp_loop_rounds 1 ?_
    rw [rounds_succ]
    have i0 := ib0
    go_wp2_with fail
    go_ret
    exact Ret.bool HV.out
  · have hp3 : 3 ≤ p := by omega
    rw [decide_eq_false hp2] at t1
    clear t0
    go_enter Tryd.func81, Tryd.ntmps81
    go_wp2_with fail
    go_loop [21] (fun i => ∃ k : Nat, k ≤ 4 ∧ i = .int .i64 k ∧ vGo p ([2, 3, 5, 7].drop k) = validI p) (fun i => 4 - (intOf i).toNat)
    case atStart => exact ⟨0, by omega, rfl, HV.out⟩
    case round =>
      obtain ⟨k, hk, rfl, hgo⟩ := hrel
      have HG := Lib.hid hgo
      clear hgo t1 d1 d2
      by_cases hk4 : k < 4
      · have hix := index_bases k hk4
        obtain ⟨bb1, bb2⟩ := basis_bd k hk4
        have HD := Lib.hid (basis_drop k hk4)
        generalize hbas : basis k = b at *
        clear hbas
        by_cases hpb : p = b
        · have t2 : ((p : Int) == (b : Int)) = true := by simp; omega
          have HR := Lib.hid (show true = validI p by rw [← HG.out, HD.out, vGo_eq hpb])
          clear hpb
          go_wp2_with fail
          go_ret
          exact Ret.bool HR.out
        · have t2 : ((p : Int) == (b : Int)) = false := by simp; omega
          by_cases hdiv : p % b = 0
          · have t3 : ((p : Int) % (b : Int) == 0) = true := by rw [← Int.natCast_emod]; simp; omega
            have HR := Lib.hid (show false = validI p by rw [← HG.out, HD.out, vGo_div hpb hdiv])
            clear hpb hdiv
            go_wp2_with fail
            go_ret
            exact Ret.bool HR.out
          · have t3 : ((p : Int) % (b : Int) == 0) = false := by rw [← Int.natCast_emod]; simp; omega
            have HP := Lib.hid (fun w => passes_any p b w hp3 (by omega) (by omega))
            cases hmr : mrPass p b
            · have HR := Lib.hid (show false = validI p by rw [← HG.out, HD.out, vGo_fail hpb hdiv hmr])
              have HM := Lib.hid hmr
              clear hpb hdiv hmr
              go_wp2_with fail
              refine ret_pure (HP.out _) ?_
              rw [HM.out]
              go_wp2_with fail
              go_ret
              exact Ret.bool HR.out
            · have HR := Lib.hid (show vGo p ([2, 3, 5, 7].drop (k + 1)) = validI p by rw [← HG.out, HD.out, vGo_pass hpb hdiv hmr])
              have HM := Lib.hid hmr
              clear hpb hdiv hmr
              go_wp2_with fail
              refine ret_pure (HP.out _) ?_
              rw [HM.out]
              go_wp2_with fail
              go_round
              case rel => exact ⟨k + 1, by omega, by go_num, HR.out⟩
              case measure => simp [intOf]; omega
      · have HR := Lib.hid (show true = validI p by rw [← HG.out, show k = 4 by omega]; rfl)
        go_wp2_with fail
        go_ret
        exact Ret.bool HR.out

set_option maxHeartbeats 400000 in
theorem valid_any (p : Int) (w : World) (hB : Bases w) : Calls Tryd.prog 81 #[.int .i64 p] w (Ret (.bool (validI p)) w) := by
  by_cases h1 : p < 2
  · have HV := Lib.hid (validI_small h1)
    go_enter Tryd.func81, Tryd.ntmps81
    go_wp2
    go_ret
    exact Ret.bool HV.out
  · by_cases h2 : 1073741824 < p
    · have HV := Lib.hid (validI_big h2)
      go_enter Tryd.func81, Tryd.ntmps81
      go_wp2
      go_ret
      exact Ret.bool HV.out
    · obtain ⟨p, rfl⟩ := Int.eq_ofNat_of_zero_le (show 0 ≤ p by omega)
      by_cases h3 : 2 < p ∧ p % 2 = 0
      · have HV := Lib.hid ((validF_even h3).trans (validI_nat (by omega)))
        have t1 : ((p : Int) % 2 == 0) = true := by simp; omega
        have t2 : 2 < (p : Int) := by omega
        clear h3
        go_enter Tryd.func81, Tryd.ntmps81
        go_wp2
        go_ret
        exact Ret.bool HV.out
      · exact valid_mid p w hB (by omega) (by omega) h3
end Go.Proofs.YtlhipgejiacklaaDoor
namespace Go.Proofs.YtlhipgejiacklaaDoor
open Go.RowKit

/-! ### Lists of elements -/
def inside (p : Int) (L : List Int) : Bool := L.all fun n => decide (0 ≤ n) && decide (n < p)
def elemsI (p : Int) (L : List Int) (v : Bool) : Bool := inside p L && v
theorem inside_at {p : Int} {L : List Int} {k : Nat} (hk : k < L.length) (h : nth L k < 0 ∨ p ≤ nth L k) (v : Bool) : false = elemsI p L v := by
  have : inside p L = false := by
    unfold inside
    rw [List.all_eq_false]
    refine ⟨nth L k, by rw [nth_eq hk]; exact List.getElem_mem hk, ?_⟩
    simp; omega
  unfold elemsI; rw [this]; rfl
theorem inside_all {p : Int} {L : List Int} (h : ∀ k, k < L.length → 0 ≤ nth L k ∧ nth L k < p) (v : Bool) : v = elemsI p L v := by
  have : inside p L = true := by
    unfold inside
    rw [List.all_eq_true]
    intro x hx
    obtain ⟨k, hk, rfl⟩ := List.getElem_of_mem hx
    have := h k hk
    rw [nth_eq hk] at this
    simp; exact this
  unfold elemsI; rw [this]; rfl

/-! ### The document's primes -/
noncomputable def primeV (p : Int) : Bool := @decide (p ≤ 1073741824 ∧ PrimeN p.toNat) (Classical.propDecidable _)
theorem primeV_true {p : Nat} (h : p ≤ 1073741824) (hp : PrimeN p) : true = primeV (p : Int) := by
  unfold primeV; exact (@decide_eq_true _ (Classical.propDecidable _) ⟨by omega, by rw [Int.toNat_natCast]; exact hp⟩).symm
theorem primeV_false {p : Int} (h : ¬ (p ≤ 1073741824 ∧ PrimeN p.toNat)) : false = primeV p := by
  unfold primeV; exact (@decide_eq_false _ (Classical.propDecidable _) h).symm
theorem prime_of_small {p k : Nat} (hp : 2 ≤ p) (hk : p < k * k) (h : ∀ e, 2 ≤ e → e < k → ¬ e ∣ p) : PrimeN p := by
  refine ⟨hp, fun d hd => ?_⟩
  rcases Nat.lt_or_ge d 2 with h2 | h2
  · have := Nat.pos_of_dvd_of_pos hd (by omega); omega
  · obtain ⟨m, rfl⟩ := hd
    rcases Nat.lt_or_ge d k with h3 | h3
    · exact absurd (Nat.dvd_mul_right d m) (h d h2 h3)
    · rcases Nat.lt_or_ge m 2 with h4 | h4
      · have : m = 1 := by
          rcases Nat.eq_zero_or_pos m with h5 | h5
          · subst h5; rw [Nat.mul_zero] at hp; omega
          · omega
        subst this; right; omega
      · rcases Nat.lt_or_ge m k with h5 | h5
        · exact absurd (Nat.dvd_mul_left m d) (h m h4 h5)
        · have := Nat.mul_le_mul h3 h5; omega
theorem not_prime_of_dvd {p k : Nat} (hk : 2 ≤ k) (hkk : k * k ≤ p) (hd : k ∣ p) : ¬ PrimeN p := fun h => by
  rcases h.2 k hd with h1 | h1
  · omega
  · have := Nat.mul_le_mul_left k hk; omega

set_option maxHeartbeats 1000000 in
theorem refValid_any (p : Int) (w : World) : Calls Tryd.prog 92 #[.int .i64 p] w (Ret (.bool (primeV p)) w) := by
  by_cases h1 : p < 2
  · have HV := Lib.hid (primeV_false (p := p) (fun h => by have := h.2.1; omega))
    go_enter Tryd.func92, Tryd.ntmps92
    go_wp2
    go_ret
    exact Ret.bool HV.out
  · by_cases h2 : 1073741824 < p
    · have HV := Lib.hid (primeV_false (p := p) (fun h => by have := h.1; omega))
      go_enter Tryd.func92, Tryd.ntmps92
      go_wp2
      go_ret
      exact Ret.bool HV.out
    · obtain ⟨p, rfl⟩ := Int.eq_ofNat_of_zero_le (show 0 ≤ p by omega)
      go_enter Tryd.func92, Tryd.ntmps92
      go_wp2_with fail
      go_loop [3] (fun d => ∃ k : Nat, 2 ≤ k ∧ k ≤ 32769 ∧ d = .int .i64 k ∧ ∀ e, 2 ≤ e → e < k → ¬ e ∣ p) (fun d => 32770 - (intOf d).toNat)
      case atStart => exact ⟨2, by omega, by omega, rfl, fun e h1 h2 => absurd h1 (by omega)⟩
      case round =>
        obtain ⟨k, hk1, hk2, rfl, hpre⟩ := hrel
        have HP := Lib.hid hpre
        clear hpre
        have hb : k * k ≤ 32769 * 32769 := Nat.mul_le_mul hk2 hk2
        have x1 : (k : Int) * k = (k * k : Nat) := by push_cast; rfl
        have w1 : IntKind.i64.wrap ((k : Int) * k) = (k : Int) * k := IntWalk.i64_in _ (by omega)
        have r1 : (p : Int).tmod k = (p : Int) % k := Int.tmod_eq_emod_of_nonneg (by omega)
        have z1 : ¬ (k : Int) = 0 := by omega
        have z2 : ((k : Int) == 0) = false := by simp; omega
        have b1 := Int.emod_nonneg (p : Int) z1
        have b2 := Int.emod_lt_of_pos (p : Int) (b := (k : Int)) (by omega)
        by_cases hkk : k * k ≤ p
        · have hk3 : k ≤ 32768 := by
            rcases Nat.lt_or_ge k 32769 with h | h
            · omega
            · have := Nat.mul_le_mul h h; omega
          have c1 : (k : Int) * k ≤ p := by omega
          by_cases hd : k ∣ p
          · have HV := Lib.hid (primeV_false (p := (p : Int)) (fun h => not_prime_of_dvd hk1 hkk hd (by have := h.2; rwa [Int.toNat_natCast] at this)))
            have t1 : ((p : Int) % k == 0) = true := by rw [← Int.natCast_emod, Nat.mod_eq_zero_of_dvd hd]; rfl
            clear hd x1 hkk hb
            go_wp2_with fail
            go_ret
            exact Ret.bool HV.out
          · have t1 : ((p : Int) % k == 0) = false := by
              rw [← Int.natCast_emod]; simp
              exact fun e => hd (Nat.dvd_of_mod_eq_zero (by omega))
            have HD := Lib.hid hd
            clear hd x1 hkk hb
            go_wp2_with fail
            go_round
            case rel =>
              refine ⟨k + 1, by omega, by omega, by go_num, fun e h1 h2 => ?_⟩
              by_cases hek : e = k
              · subst hek; exact HD.out
              · exact HP.out e h1 (by omega)
            case measure => simp [intOf]; omega
        · have HV := Lib.hid (primeV_true (p := p) (by omega) (prime_of_small (by omega) (by omega) HP.out))
          have c1 : ¬ (k : Int) * k ≤ p := by omega
          clear x1 hkk hb
          go_wp2_with fail
          go_ret
          exact Ret.bool HV.out

set_option maxHeartbeats 1000000 in
theorem elems_ref (A : Option Addr) (L : List Int) (c : Nat) (p : Int) (w : World) (hI : IntsAt w A L) (hl : L.length ≤ 1099511627776) :
    Calls Tryd.prog 68 #[.int .i64 p, .slice A L.length c] w (Ret (.bool (elemsI p L (primeV p))) w) := by
  have HI := Lib.hid hI
  clear hI
  go_enter Tryd.func68, Tryd.ntmps68
  go_wp2_with fail
  go_loop [9] (fun i => ∃ k : Nat, k ≤ L.length ∧ i = .int .i64 k ∧ ∀ j, j < k → 0 ≤ nth L j ∧ nth L j < p) (fun i => L.length - (intOf i).toNat)
  case atStart => exact ⟨0, by omega, rfl, fun j hj => absurd hj (by omega)⟩
  case round =>
    obtain ⟨k, hk, rfl, hpre⟩ := hrel
    have HP := Lib.hid hpre
    clear hpre
    by_cases hkl : k < L.length
    · obtain ⟨b, off, rfl, hb, hc⟩ := HI.out k hkl
      have HF := Lib.hid (fun h => inside_at (p := p) hkl h (primeV p))
      generalize hx : nth L k = x at *
      have HX := Lib.hid hx
      clear hx
      by_cases h1 : x < 0
      · go_wp2_with fail
        go_ret
        exact Ret.bool (HF.out (.inl h1))
      · by_cases h2 : p ≤ x
        · go_wp2_with fail
          go_ret
          exact Ret.bool (HF.out (.inr h2))
        · go_wp2_with fail
          go_round
          case rel =>
            refine ⟨k + 1, by omega, by go_num, fun j hj => ?_⟩
            by_cases hjk : j = k
            · subst hjk; rw [HX.out]; omega
            · exact HP.out j (by omega)
          case measure => simp [intOf]; omega
    · go_wp2_with fail
      refine ret_pure (refValid_any p _) ?_
      rw [inside_all (fun j hj => HP.out j (by omega)) (primeV p)]
      go_wp2_with fail
      go_ret
      exact Ret.bool rfl

end Go.Proofs.YtlhipgejiacklaaDoor
namespace Go.Proofs.YtlhipgejiacklaaDoor
open Go.RowKit

theorem sqrt_one {p x : Nat} (hp : PrimeN p) (hx : x < p) (h : fmul p x x = 1) : x = 1 ∨ x = p - 1 := by
  have h2 := hp.1
  rcases Nat.eq_zero_or_pos x with h0 | h0
  · subst h0; unfold fmul at h; simp at h
  · have hd : p ∣ (x - 1) * (x + 1) := by
      have e : (x - 1) * (x + 1) = x * x - 1 := by
        obtain ⟨y, rfl⟩ : ∃ y, x = y + 1 := ⟨x - 1, by omega⟩
        simp only [Nat.add_sub_cancel, Nat.add_mul, Nat.mul_add]; omega
      rw [e]
      have hxx : 1 ≤ x * x := Nat.mul_pos h0 h0
      refine (Nat.dvd_iff_mod_eq_zero).2 ?_
      unfold fmul at h
      have := Nat.sub_mod_eq_zero_of_mod_eq (m := x * x) (n := 1) (k := p) (by rw [h, Nat.mod_eq_of_lt (by omega)])
      exact this
    rcases hp.euclid hd with h1 | h1
    · left
      rcases Nat.eq_zero_or_pos (x - 1) with h3 | h3
      · omega
      · have := Nat.le_of_dvd h3 h1; omega
    · right
      have := Nat.le_of_dvd (by omega) h1; omega
theorem mrGo_prime {p : Nat} (hp : PrimeN p) : ∀ k x, x < p → ¬ x = 1 → ¬ x = p - 1 → fpow p x (2 ^ (k + 1)) = 1 → mrGo p k x = true
  | 0, x, hx, h1, h2, h => by
    exfalso
    have : fmul p x x = 1 := by rw [← h]; unfold fmul fpow; rw [Nat.zero_add, Nat.pow_one, Nat.pow_two]
    rcases sqrt_one hp hx this with e | e
    · exact h1 e
    · exact h2 e
  | k + 1, x, hx, h1, h2, h => by
    by_cases hy : fmul p x x = p - 1
    · exact mrGo_yes p k x hy
    · rw [mrGo_no p k x hy]
      have hp1 := hp.1
      refine mrGo_prime hp k _ (fmul_lt (by omega) _ _) (fun e => ?_) hy ?_
      · rcases sqrt_one hp hx e with e | e
        · exact h1 e
        · exact h2 e
      · have e : fpow p (fmul p x x) (2 ^ (k + 1)) = fpow p x (2 ^ (k + 1 + 1)) := by
          unfold fmul fpow
          rw [← Nat.pow_mod, ← Nat.pow_two, ← Nat.pow_mul, ← Nat.pow_succ']
        rw [e]; exact h
theorem mrPass_prime {p b : Nat} (hp : PrimeN p) (h3 : 3 ≤ p) (hb : ¬ p ∣ b) : mrPass p b = true := by
  by_cases h : mrX p b = 1 ∨ mrX p b = 0 ∨ mrX p b = p - 1
  · exact (mr_first p b h).symm
  · rw [← mr_later p b h]
    have hs : 1 ≤ mrS p := by
      rcases Nat.eq_zero_or_pos (mrS p) with h0 | h0
      · exfalso
        have hm := mr_mul p
        rw [h0, Nat.pow_zero, Nat.mul_one] at hm
        have hx : mrX p b = 1 := by
          unfold mrX fpow
          rw [hm, ← Nat.pow_mod]; exact flt hp hb
        exact h (.inl hx)
      · exact h0
    refine mrGo_prime hp _ _ (fpow_lt (by omega) _ _) (fun e => h (.inl e)) (fun e => h (.inr (.inr e))) ?_
    rw [show mrS p - 1 + 1 = mrS p by omega]
    unfold mrX fpow
    rw [← Nat.pow_mod, ← Nat.pow_mul, mr_mul, ← Nat.pow_mod]
    exact flt hp hb
theorem vGo_prime {p : Nat} (hp : PrimeN p) (h3 : 3 ≤ p) : ∀ l : List Nat, (∀ b ∈ l, PrimeN b) → vGo p l = true
  | [], _ => rfl
  | b :: l, hl => by
    by_cases hpb : p = b
    · exact vGo_eq hpb
    · have hb := hl b (by simp)
      have hnd : ¬ p % b = 0 := fun e => by
        rcases hp.2 b (Nat.dvd_of_mod_eq_zero e) with e | e
        · have := hb.1; omega
        · exact hpb e.symm
      have hnb : ¬ p ∣ b := fun e => by
        rcases hb.2 p e with e | e
        · omega
        · exact hpb e
      rw [vGo_pass hpb hnd (mrPass_prime hp h3 hnb)]
      exact vGo_prime hp h3 l (fun c hc => hl c (by simp [hc]))
theorem validI_prime {p : Nat} (hp : PrimeN p) (h : p ≤ 1073741824) : validI (p : Int) = true := by
  have h2 := hp.1
  rw [← validI_nat h2]
  by_cases he : p = 2
  · subst he; rfl
  · have hodd : ¬ (2 < p ∧ p % 2 = 0) := fun ⟨h4, h5⟩ => by
      rcases hp.2 2 (Nat.dvd_of_mod_eq_zero h5) with e | e
      · omega
      · omega
    rw [← validF_go (by omega)]
    refine vGo_prime hp (by omega) _ (fun b hb => ?_)
    simp at hb
    rcases hb with rfl | rfl | rfl | rfl
    · exact prime_2
    · exact prime_3
    · exact prime_5
    · exact prime_7
end Go.Proofs.YtlhipgejiacklaaDoor
namespace Go.Proofs.YtlhipgejiacklaaDoor
open Go.RowKit

theorem info_share : (Tryd.prog.info? 53).map (fun i => (i.zero, i.size, i.bytes)) = some (some (.agg #[.int .i64 0, .slice none 0 0]), 2, 32) := by kernel_rfl

/-! ### Lists of shares in memory -/
abbrev Shr := Int × List Int
def hS (S : List Shr) (k : Nat) : Int := (S.getD k (0, [])).1
def vS (S : List Shr) (k : Nat) : List Int := (S.getD k (0, [])).2
/-- What a slice may look like. -/
structure IOK (A : Option Addr) (c n : Nat) : Prop where
  len : n ≤ c
  cap : c ≤ maxLen
  nil : A = none → c = 0
  spot : n = 0 ∨ ∀ a, A = some a → a.spot = none
theorem IOK.none0 : IOK none 0 0 := ⟨Nat.le_refl _, Nat.zero_le _, fun _ => rfl, .inl rfl⟩
theorem SlOK.iok {A : Option Addr} {c : Nat} {L : List Nat} (h : SlOK A c L) : IOK A c L.length := ⟨h.len, h.cap, h.nil, .inr h.spot⟩
theorem IOK.take {A : Option Addr} {c n : Nat} (h : IOK A c n) (k : Nat) (hk : k ≤ n) : IOK A c k := ⟨Nat.le_trans hk h.len, h.cap, h.nil, h.spot.elim (fun e => .inl (by omega)) .inr⟩
/-- A slice of numbers; the blocks that it lies in satisfy P. -/
structure IntsP (P : Nat → Prop) (w : World) (A : Option Addr) (c : Nat) (L : List Int) : Prop where
  ints : IntsAt w A L
  ok : IOK A c L.length
  off : ∀ b off, A = some ⟨b, off, none⟩ → L.length = 0 ∨ P b
theorem IntsP.nil (P : Nat → Prop) (w : World) : IntsP P w none 0 [] := ⟨IntsAt.nil _ _, IOK.none0, fun b off e => by cases e⟩
/-- All blocks that satisfy P stand. -/
structure Kept (P : Nat → Prop) (w w' : World) : Prop where
  size : w.heap.size ≤ w'.heap.size
  block : ∀ b, P b → b < w.heap.size → w'.heap[b]? = w.heap[b]?
theorem Kept.below {P : Nat → Prop} {w w' : World} (hb : Below w.heap.size w w') : Kept P w w' := ⟨hb.size, fun b _ h => hb.block b h⟩
theorem Kept.mv {D : Nat} {w w' : World} (hg : w.grownBy w' (some D)) : Kept (· ≠ D) w w' := ⟨hg.size, fun b hb h => hg.block b h (fun e => by injection e with e; exact hb e)⟩
theorem Kept.app {B : Nat} {w w' : World} (hb : Below B w w') : Kept (· < B) w w' := ⟨hb.size, fun b h _ => hb.block b h⟩
theorem Kept.trans {P : Nat → Prop} {w w1 w2 : World} (h : Kept P w w1) (g : Kept P w1 w2) : Kept P w w2 := ⟨Nat.le_trans h.size g.size, fun b hP hb => (g.block b hP (Nat.lt_of_lt_of_le hb h.size)).trans (h.block b hP hb)⟩
theorem IntsAt.keep {P : Nat → Prop} {w w' : World} {A : Option Addr} {L : List Int} (h : IntsAt w A L) (hP : ∀ b off, A = some ⟨b, off, none⟩ → L.length = 0 ∨ P b) (hk : Kept P w w') : IntsAt w' A L := fun k hl => by
  obtain ⟨b, off, hA, hlt, hc⟩ := h k hl
  have hPb : P b := (hP b off hA).elim (fun e => by omega) id
  exact ⟨b, off, hA, Nat.lt_of_lt_of_le hlt hk.size, (World.cell?_of_block (w := w) (hk.block b hPb hlt)).trans hc⟩
theorem IntsP.keep {P : Nat → Prop} {w w' : World} {A : Option Addr} {c : Nat} {L : List Int} (h : IntsP P w A c L) (hk : Kept P w w') : IntsP P w' A c L := ⟨h.ints.keep h.off hk, h.ok, h.off⟩
theorem IntsP.mono {P Q : Nat → Prop} {w : World} {A : Option Addr} {c : Nat} {L : List Int} (h : IntsP P w A c L) (hPQ : ∀ b, b < w.heap.size → P b → Q b) : IntsP Q w A c L := ⟨h.ints, h.ok, fun b off e => by
  rcases h.off b off e with h0 | hP
  · exact .inl h0
  · rcases Nat.eq_zero_or_pos L.length with h0 | h0
    · exact .inl h0
    · obtain ⟨b', off', e', hlt, _⟩ := h.ints 0 h0
      rw [e] at e'; injection e' with e'; injection e' with e1; subst e1
      exact .inr (hPQ b hlt hP)⟩
theorem IntsAt.take {w : World} {A : Option Addr} {L : List Int} (h : IntsAt w A L) (k : Nat) : IntsAt w A (L.take k) := fun j hj => by
  have hj' : j < L.length := Nat.lt_of_lt_of_le hj (List.length_take_le' _ _)
  obtain ⟨b, off, hA, hb, hc⟩ := h j hj'
  exact ⟨b, off, hA, hb, by rw [hc, nth_eq hj', nth_eq hj]; simp⟩
theorem IntsAt.nats {w : World} {A : Option Addr} {L : List Nat} (h : IntsAt w A (ofN L)) : NatsAt w A L := fun k hk => by
  obtain ⟨b, off, hA, hb, hc⟩ := h k (by rw [len_ofN]; exact hk)
  exact ⟨b, off, hA, hb, by rw [hc, nth_ofN]⟩
/-- The address A leads to the shares S. -/
def ShAt (P : Nat → Prop) (w : World) (A : Option Addr) (S : List Shr) : Prop :=
  ∀ k, k < S.length → ∃ b off B c, A = some ⟨b, off, none⟩ ∧ b < w.heap.size ∧ P b ∧ w.cell? ⟨b, off + k * 2, none⟩ = some (.int .i64 (hS S k)) ∧
    w.cell? ⟨b, off + k * 2 + 1, none⟩ = some (.slice B (vS S k).length c) ∧ IntsP P w B c (vS S k)
structure ShP (P : Nat → Prop) (w : World) (A : Option Addr) (c : Nat) (S : List Shr) : Prop where
  at_ : ShAt P w A S
  ok : IOK A c S.length
theorem ShAt.keep {P : Nat → Prop} {w w' : World} {A : Option Addr} {S : List Shr} (h : ShAt P w A S) (hk : Kept P w w') : ShAt P w' A S := fun k hl => by
  obtain ⟨b, off, B, c, hA, hlt, hP, h1, h2, h3⟩ := h k hl
  exact ⟨b, off, B, c, hA, Nat.lt_of_lt_of_le hlt hk.size, hP, (World.cell?_of_block (w := w) (hk.block b hP hlt)).trans h1, (World.cell?_of_block (w := w) (hk.block b hP hlt)).trans h2, h3.keep hk⟩
theorem ShP.keep {P : Nat → Prop} {w w' : World} {A : Option Addr} {c : Nat} {S : List Shr} (h : ShP P w A c S) (hk : Kept P w w') : ShP P w' A c S := ⟨h.at_.keep hk, h.ok⟩
theorem ShP.below {P : Nat → Prop} {w w' : World} {A : Option Addr} {c : Nat} {S : List Shr} (h : ShP P w A c S) (hb : Below w.heap.size w w') : ShP P w' A c S := h.keep (Kept.below hb)
theorem ShP.mv {D : Nat} {w w' : World} {A : Option Addr} {c : Nat} {S : List Shr} (h : ShP (· ≠ D) w A c S) (hg : w.grownBy w' (some D)) : ShP (· ≠ D) w' A c S := h.keep (Kept.mv hg)
theorem ShP.mono {P Q : Nat → Prop} {w : World} {A : Option Addr} {c : Nat} {S : List Shr} (h : ShP P w A c S) (hPQ : ∀ b, b < w.heap.size → P b → Q b) : ShP Q w A c S := ⟨fun k hk => by
  obtain ⟨b, off, B, c, hA, hlt, hP, h1, h2, h3⟩ := h.at_ k hk
  exact ⟨b, off, B, c, hA, hlt, hPQ b hlt hP, h1, h2, h3.mono hPQ⟩, h.ok⟩
theorem ShP.any {P : Nat → Prop} {w : World} {A : Option Addr} {c : Nat} {S : List Shr} (h : ShP P w A c S) : ShP (fun _ => True) w A c S := h.mono fun _ _ _ => trivial
theorem ShP.nil (P : Nat → Prop) (w : World) : ShP P w none 0 [] := ⟨fun k h => absurd h (by simp), IOK.none0⟩
theorem hS_take {S : List Shr} {k j : Nat} (h : j < k) : hS (S.take k) j = hS S j := by simp [hS, List.getD_eq_getElem?_getD, h]
theorem vS_take {S : List Shr} {k j : Nat} (h : j < k) : vS (S.take k) j = vS S j := by simp [vS, List.getD_eq_getElem?_getD, h]
theorem ShP.take {P : Nat → Prop} {w : World} {A : Option Addr} {c : Nat} {S : List Shr} (h : ShP P w A c S) (k : Nat) : ShP P w A c (S.take k) := ⟨fun j hj => by
  have hl : (S.take k).length = min k S.length := List.length_take
  obtain ⟨b, off, B, c, hA, hlt, hP, h1, h2, h3⟩ := h.at_ j (by omega)
  refine ⟨b, off, B, c, hA, hlt, hP, ?_⟩
  rw [hS_take (by omega), vS_take (by omega)]
  exact ⟨h1, h2, h3⟩, h.ok.take _ (by rw [List.length_take]; omega)⟩
/-- The call returns a new list of shares. -/
def NewSh (S : List Shr) (w : World) (e : Ending) (w' : World) : Prop :=
  ∃ A c, e = .returned (.slice A S.length c) ∧ ShP (fun b => w.heap.size ≤ b) w' A c S ∧ Below w.heap.size w w'
def ShErr (S : List Shr) (er : Int) (w : World) (e : Ending) (w' : World) : Prop :=
  ∃ A c, e = .returned (.tuple #[.slice A S.length c, .int .i64 er]) ∧ ShP (fun b => w.heap.size ≤ b) w' A c S ∧ Below w.heap.size w w'
theorem ShErr.nil (er : Int) {w w' : World} (hb : Below w.heap.size w w') : ShErr [] er w (.returned (.tuple #[.slice none 0 0, .int .i64 er])) w' := ⟨none, 0, rfl, ShP.nil _ _, hb⟩

/-! ### Plans -/
theorem blk_lt {w : World} {x : Nat} {o : Obj} (h : w.heap[x]? = some o) : x < w.heap.size := by
  rcases Nat.lt_or_ge x w.heap.size with hlt | hge
  · exact hlt
  · rw [Array.getElem?_eq_none hge] at h; cases h
abbrev planV (p n h : Int) : Value := .agg #[.int .i64 p, .int .i64 n, .int .i64 h]
def PlanCell (w : World) (x : Nat) (p n h : Int) : Prop := w.heap[x]? = some (.cells #[.int .i64 p, .int .i64 n, .int .i64 h] 28 (0, 0))
theorem PlanCell.c0 {w : World} {x : Nat} {p n h : Int} (H : PlanCell w x p n h) : w.cell? ⟨x, 0, none⟩ = some (.int .i64 p) := by rw [cell_of_row w x 0 _ _ (0, 0) H]; rfl
theorem PlanCell.c1 {w : World} {x : Nat} {p n h : Int} (H : PlanCell w x p n h) : w.cell? ⟨x, 1, none⟩ = some (.int .i64 n) := by rw [cell_of_row w x 1 _ _ (0, 0) H]; rfl
theorem PlanCell.c2 {w : World} {x : Nat} {p n h : Int} (H : PlanCell w x p n h) : w.cell? ⟨x, 2, none⟩ = some (.int .i64 h) := by rw [cell_of_row w x 2 _ _ (0, 0) H]; rfl
theorem PlanCell.lt {w : World} {x : Nat} {p n h : Int} (H : PlanCell w x p n h) : x < w.heap.size := blk_lt H
theorem PlanCell.below {w w' : World} {x : Nat} {p n h : Int} (H : PlanCell w x p n h) (hb : Below w.heap.size w w') : PlanCell w' x p n h := (hb.block x (blk_lt H)).trans H
theorem PlanCell.keep {w w' : World} {x : Nat} {p n h : Int} (H : PlanCell w x p n h) (hb : w'.heap[x]? = w.heap[x]?) : PlanCell w' x p n h := hb.trans H
theorem PlanCell.new {w : World} {i : Nat} (p n h : Int) (hi : i = w.heap.size) : PlanCell (w.alloc (.cells #[.int .i64 p, .int .i64 n, .int .i64 h] 28)) i p n h := by subst hi; exact heap_alloc_new w _
theorem PlanCell.alloc {w : World} {i : Nat} {p n h : Int} (H : PlanCell w i p n h) (o : Obj) : PlanCell (w.alloc o) i p n h := H.below (below_alloc w o)

def PlanP (p n h : Int) : Prop := 1 ≤ n ∧ n ≤ h ∧ h ≤ 16 ∧ h < p ∧ validI p = true
instance (p n h : Int) : Decidable (PlanP p n h) := by unfold PlanP; exact inferInstance
def plB (p n h : Int) : Bool := decide (PlanP p n h)
theorem plB_no {p n h : Int} (H : ¬ PlanP p n h) : false = plB p n h := (decide_eq_false H).symm
theorem plB_yes {p n h : Int} (H : PlanP p n h) : true = plB p n h := (decide_eq_true H).symm
theorem plB_last {p n h : Int} (h1 : 1 ≤ n) (h2 : n ≤ h) (h3 : h ≤ 16) (h4 : h < p) : validI p = plB p n h := by
  unfold plB
  by_cases hv : validI p = true
  · rw [hv]; exact (decide_eq_true ⟨h1, h2, h3, h4, hv⟩).symm
  · rw [Bool.not_eq_true] at hv
    rw [hv]; exact (decide_eq_false (fun H => by have := H.2.2.2.2; rw [hv] at this; cases this)).symm
theorem plan_prime {p n h : Int} (H : PlanP p n h) (hv : primeV p = validI p) : ∃ q : Nat, p = (q : Int) ∧ PrimeN q ∧ q ≤ 1073741824 := by
  have h1 : primeV p = true := hv.trans H.2.2.2.2
  unfold primeV at h1
  have h2 := @of_decide_eq_true _ (Classical.propDecidable _) h1
  obtain ⟨a, b, c, d, -⟩ := H
  exact ⟨p.toNat, by omega, h2.2, by omega⟩

set_option maxRecDepth 100000 in
set_option maxHeartbeats 1000000 in
theorem valid_plan (p n h : Int) (w : World) (hB : Bases w) : Calls Tryd.prog 49 #[planV p n h] w (RetB (.bool (plB p n h)) w) := by
  have HB := Lib.hid hB
  clear hB
  by_cases h1 : 1 ≤ n
  · by_cases h2 : n ≤ h
    · by_cases h3 : h ≤ 16
      · by_cases h4 : h < p
        · have HV := Lib.hid (plB_last h1 h2 h3 h4)
          go_enter Tryd.func49, Tryd.ntmps49
          go_wp2_with fail
          refine ret_pure (valid_any p _ (HB.out.keep (below_alloc _ _))) ?_
          go_wp2_with fail
          go_ret
          exact RetB.bool HV.out (below_alloc _ _)
        · have HV := Lib.hid (plB_no (fun H : PlanP p n h => h4 H.2.2.2.1))
          go_enter Tryd.func49, Tryd.ntmps49
          go_wp2_with fail
          go_ret
          exact RetB.bool HV.out (below_alloc _ _)
      · have HV := Lib.hid (plB_no (fun H : PlanP p n h => h3 H.2.2.1))
        go_enter Tryd.func49, Tryd.ntmps49
        go_wp2_with fail
        go_ret
        exact RetB.bool HV.out (below_alloc _ _)
    · have HV := Lib.hid (plB_no (fun H : PlanP p n h => h2 H.2.1))
      go_enter Tryd.func49, Tryd.ntmps49
      go_wp2_with fail
      go_ret
      exact RetB.bool HV.out (below_alloc _ _)
  · have HV := Lib.hid (plB_no (fun H : PlanP p n h => h1 H.1))
    go_enter Tryd.func49, Tryd.ntmps49
    go_wp2_with fail
    go_ret
    exact RetB.bool HV.out (below_alloc _ _)

theorem plB_bad {p n h : Int} (H : validI p = false) : false = plB p n h := plB_no (fun g => by have := g.2.2.2.2; rw [H] at this; cases this)
set_option maxRecDepth 100000 in
set_option maxHeartbeats 1000000 in
theorem refValid_plan (p n h : Int) (w : World) (hv : primeV p = validI p) : Calls Tryd.prog 63 #[planV p n h] w (RetB (.bool (plB p n h)) w) := by
  have hc := fun w => refValid_any p w
  rw [hv] at hc
  have HC := Lib.hid hc
  clear hc hv
  cases hq : validI p with
  | false =>
    have HV := Lib.hid (plB_bad (n := n) (h := h) hq)
    have HQ := Lib.hid hq
    clear hq
    go_enter Tryd.func63, Tryd.ntmps63
    go_wp2_with fail
    refine ret_pure (HC.out _) ?_
    rw [HQ.out]
    go_wp2_with fail
    go_ret
    exact RetB.bool HV.out (below_alloc _ _)
  | true =>
    have HQ := Lib.hid hq
    clear hq
    by_cases h1 : 1 ≤ n
    · by_cases h2 : n ≤ h
      · by_cases h3 : h ≤ 16
        · have HV := Lib.hid (show decide (h < p) = plB p n h from by
            by_cases h4 : h < p
            · rw [decide_eq_true h4, ← plB_last h1 h2 h3 h4]; exact HQ.out.symm
            · rw [decide_eq_false h4]; exact plB_no (fun H => h4 H.2.2.2.1))
          go_enter Tryd.func63, Tryd.ntmps63
          go_wp2_with fail
          refine ret_pure (HC.out _) ?_
          rw [HQ.out]
          go_wp2_with fail
          go_ret
          exact RetB.bool HV.out (below_alloc _ _)
        · have HV := Lib.hid (plB_no (fun H : PlanP p n h => h3 H.2.2.1))
          go_enter Tryd.func63, Tryd.ntmps63
          go_wp2_with fail
          refine ret_pure (HC.out _) ?_
          rw [HQ.out]
          go_wp2_with fail
          go_ret
          exact RetB.bool HV.out (below_alloc _ _)
      · have HV := Lib.hid (plB_no (fun H : PlanP p n h => h2 H.2.1))
        go_enter Tryd.func63, Tryd.ntmps63
        go_wp2_with fail
        refine ret_pure (HC.out _) ?_
        rw [HQ.out]
        go_wp2_with fail
        go_ret
        exact RetB.bool HV.out (below_alloc _ _)
    · have HV := Lib.hid (plB_no (fun H : PlanP p n h => h1 H.1))
      go_enter Tryd.func63, Tryd.ntmps63
      go_wp2_with fail
      refine ret_pure (HC.out _) ?_
      rw [HQ.out]
      go_wp2_with fail
      go_ret
      exact RetB.bool HV.out (below_alloc _ _)

/-! ### Lists of elements -/
theorem enter_elem (args : Array Value) (w : World) : (callFunc 103 args).run Tryd.prog w = .ok (.enter 103 args) w :=
  MuLone.run_callFunc_enter Tryd.func103 (by kernel_rfl) rfl args w
def outB (p n : Int) : Bool := decide (n < 0) || decide (p ≤ n)
theorem outB_lt {p n : Int} (h : n < 0) : true = outB p n := by unfold outB; rw [decide_eq_true h]; rfl
theorem outB_ge {p n : Int} (h : ¬ n < 0) : decide (p ≤ n) = outB p n := by unfold outB; rw [decide_eq_false h]; rfl
set_option maxHeartbeats 400000 in
theorem elemC_any (x : Nat) (p nd h n : Int) (w : World) (hx : PlanCell w x p nd h) : Calls Tryd.prog 103 #[.int .i64 n, .pointer (some ⟨x, 0, none⟩)] w (RetB (.bool (outB p n)) w) := by
  have hc := hx.c0
  clear hx
  by_cases h1 : n < 0
  · have HV := Lib.hid (outB_lt (p := p) h1)
    go_enter Tryd.func103, Tryd.ntmps103
    go_wp2_with fail
    go_ret
    exact RetB.bool HV.out (Below.refl _ _)
  · have HV := Lib.hid (outB_ge (p := p) h1)
    go_enter Tryd.func103, Tryd.ntmps103
    go_wp2_with fail
    go_ret
    exact RetB.bool HV.out (Below.refl _ _)

def IxI (T : Int → Bool) (L : List Int) (i : Int) : Prop := (i = -1 ∧ ∀ j, j < L.length → T (nth L j) = false) ∨ ∃ k : Nat, i = k ∧ k < L.length ∧ T (nth L k) = true
set_option maxHeartbeats 1000000 in
theorem indexInts_any (n : Nat) (us : Array Value) (T : Int → Bool) (B : Option Addr) (L : List Int) (cap : Nat) (w : World) (hI : IntsAt w B L) (hl : L.length ≤ 1099511627776) (hn : ∀ args w, (callFunc n args).run Tryd.prog w = .ok (.enter n args) w)
    (hT : ∀ w', Below w.heap.size w w' → ∀ k, k < L.length → Calls Tryd.prog n (#[.int .i64 (nth L k)] ++ us) w' (RetB (.bool (T (nth L k))) w')) :
    Calls Tryd.prog 89 #[.slice B L.length cap, .func (.func n) #[] us] w (fun e w' => ∃ i : Int, e = .returned (.int .i64 i) ∧ IxI T L i ∧ Below w.heap.size w w') := by
  have HS := Lib.hid hI
  have HT := Lib.hid hT
  clear hI hT
  go_enter Tryd.func89, Tryd.ntmps89
  go_wp2_with fail
  go_loopw [8] (fun i wr => ∃ k : Nat, k ≤ L.length ∧ i = .int .i64 k ∧ (∀ j, j < k → T (nth L j) = false) ∧ Below w.heap.size w wr) (fun i _ => L.length - (intOf i).toNat)
  case atStart => exact ⟨0, Nat.zero_le _, rfl, fun j hj => absurd hj (by omega), Below.refl _ _⟩
  case round =>
    obtain ⟨k, hk, rfl, hpre, hbr⟩ := hrel
    have HP := Lib.hid hpre
    clear hpre
    by_cases hlt : k < L.length
    · obtain ⟨b, off, rfl, hbl, c1⟩ := HS.out k hlt
      have d1 := (hbr.cell hbl).trans c1
      have hbs := hbr.size
      clear c1
      go_wp2_with fail
      refine ret_below (HT.out _ hbr k hlt) fun w2 hb2 => ?_
      generalize hx : T (nth L k) = tv at *
      have HX := Lib.hid hx
      clear hx
      have hbw : Below w.heap.size w w2 := hbr.trans (hb2.mono hbs)
      cases tv with
      | true =>
        go_wp2_with fail
        go_ret
        exact ⟨_, rfl, .inr ⟨k, rfl, hlt, HX.out⟩, hbw⟩
      | false =>
        go_wp2_with fail
        go_roundw
        case rel =>
          refine ⟨k + 1, by omega, by go_num, fun j hj => ?_, hbw⟩
          by_cases hjk : j = k
          · subst hjk; exact HX.out
          · exact HP.out j (by omega)
        case measure => simp [intOf]; omega
    · go_wp2_with fail
      go_ret
      exact ⟨_, rfl, .inl ⟨rfl, fun j hj => HP.out j (by omega)⟩, hbr⟩
theorem ixI_any {T : Int → Bool} {L : List Int} {i : Int} (h : IxI T L i) : decide (0 ≤ i) = L.any T := by
  rcases h with ⟨rfl, h⟩ | ⟨k, rfl, hk, ht⟩
  · have : L.any T = false := by
      rw [List.any_eq_false]
      intro x hx
      obtain ⟨j, hj, rfl⟩ := List.getElem_of_mem hx
      have := h j hj
      rw [nth_eq hj] at this; simp [this]
    rw [this]; rfl
  · have : L.any T = true := by
      rw [List.any_eq_true]
      exact ⟨nth L k, by rw [nth_eq hk]; exact List.getElem_mem hk, ht⟩
    rw [this]; exact decide_eq_true (by omega)
set_option maxHeartbeats 400000 in
theorem containsInts_any (n : Nat) (us : Array Value) (T : Int → Bool) (B : Option Addr) (L : List Int) (cap : Nat) (w : World) (hI : IntsAt w B L) (hl : L.length ≤ 1099511627776) (hn : ∀ args w, (callFunc n args).run Tryd.prog w = .ok (.enter n args) w)
    (hT : ∀ w', Below w.heap.size w w' → ∀ k, k < L.length → Calls Tryd.prog n (#[.int .i64 (nth L k)] ++ us) w' (RetB (.bool (T (nth L k))) w')) :
    Calls Tryd.prog 53 #[.slice B L.length cap, .func (.func n) #[] us] w (RetB (.bool (L.any T)) w) := by
  have HC := Lib.hid (indexInts_any n us T B L cap w hI hl hn hT)
  clear hI hn hT
  go_enter Tryd.func53, Tryd.ntmps53
  go_wp2_with fail
  refine HC.out.mono ?_
  rintro e w1 ⟨i, rfl, hi, hb⟩
  have HI := Lib.hid (ixI_any hi)
  clear hi
  go_wp2_with fail
  go_ret
  exact RetB.bool HI.out hb
theorem any_out (p : Int) (L : List Int) : (!L.any (outB p)) = inside p L := by
  unfold inside
  induction L with
  | nil => rfl
  | cons x L ih =>
    simp only [List.any_cons, List.all_cons, Bool.not_or, ih]
    congr 1
    unfold outB
    rw [Bool.eq_iff_iff]; simp
set_option maxHeartbeats 400000 in
theorem elements_plan (p nd h : Int) (B : Option Addr) (L : List Int) (c : Nat) (w : World) (hI : IntsAt w B L) (hl : L.length ≤ 1099511627776) :
    Calls Tryd.prog 82 #[planV p nd h, .slice B L.length c] w (RetB (.bool (inside p L)) w) := by
  have HC := Lib.hid (containsInts_any 103 #[.pointer (some ⟨w.heap.size, 0, none⟩)] (outB p) B L c (w.alloc (.cells #[.int .i64 p, .int .i64 nd, .int .i64 h] 28)) (hI.below (below_alloc _ _)) hl enter_elem
    (fun w' hb k hk => elemC_any w.heap.size p nd h (nth L k) w' ((PlanCell.new p nd h rfl).below hb)))
  have HV := Lib.hid (any_out p L)
  clear hI
  go_enter Tryd.func82, Tryd.ntmps82
  go_wp2_with fail
  refine ret_below HC.out ?_
  intro w1 hb1
  go_wp2_with fail
  go_ret
  exact RetB.bool HV.out (below_trans (below_alloc _ _) hb1)
end Go.Proofs.YtlhipgejiacklaaDoor
namespace Go.Proofs.YtlhipgejiacklaaDoor
open Go.RowKit

/-! ### A share in a cell -/
abbrev shV (x : Int) (v : Value) : Value := .agg #[.int .i64 x, v]
def ShCell (w : World) (g : Nat) (x : Int) (v : Value) : Prop := w.heap[g]? = some (.cells #[.int .i64 x, v] 53 (0, 0))
theorem ShCell.c0 {w : World} {g : Nat} {x : Int} {v : Value} (H : ShCell w g x v) : w.cell? ⟨g, 0, none⟩ = some (.int .i64 x) := by rw [cell_of_row w g 0 _ _ (0, 0) H]; rfl
theorem ShCell.c1 {w : World} {g : Nat} {x : Int} {v : Value} (H : ShCell w g x v) : w.cell? ⟨g, 1, none⟩ = some v := by rw [cell_of_row w g 1 _ _ (0, 0) H]; rfl
theorem ShCell.frozen {w : World} {g : Nat} {x : Int} {v : Value} (H : ShCell w g x v) (j : Nat) : w.frozen? ⟨g, j, none⟩ = false := by unfold ShCell at H; simp [World.frozen?, H]
theorem ShCell.below {w w' : World} {g : Nat} {x : Int} {v : Value} (H : ShCell w g x v) (hb : Below w.heap.size w w') : ShCell w' g x v := (hb.block g (blk_lt H)).trans H
theorem ShCell.new {w : World} {i : Nat} (x : Int) (v : Value) (hi : i = w.heap.size) : ShCell (w.alloc (.cells #[.int .i64 x, v] 53)) i x v := by subst hi; exact heap_alloc_new w _
theorem ShCell.alloc {w : World} {i : Nat} {x : Int} {v : Value} (H : ShCell w i x v) (o : Obj) : ShCell (w.alloc o) i x v := H.below (below_alloc w o)
theorem ShCell.other {w : World} {i : Nat} {x : Int} {v : Value} (H : ShCell w i x v) (q : Addr) (u : Value) (hq : i ≠ q.block) : ShCell (w.setCell q u) i x v := (Below.heap_setCell w q u i hq).trans H
theorem ShCell.set1 {w : World} {g : Nat} {x : Int} {v : Value} (H : ShCell w g x v) (u : Value) : ShCell (w.setCell ⟨g, 1, none⟩ u) g x u := by
  unfold ShCell at H ⊢; simp [World.setCell, Array.getElem?_modify, H]
theorem ShCell.set0 {w : World} {g : Nat} {x : Int} {v : Value} (H : ShCell w g x v) (y : Int) : ShCell (w.setCell ⟨g, 0, none⟩ (.int .i64 y)) g y v := by
  unfold ShCell at H ⊢; simp [World.setCell, Array.getElem?_modify, H]

/-! ### Stands -/
def stB (p h : Int) (x : Int) (L : List Int) : Bool := decide (1 ≤ x) && decide (x ≤ h) && inside p L
theorem stB_lo {p h x : Int} {L : List Int} (H : ¬ 1 ≤ x) : false = stB p h x L := by unfold stB; rw [decide_eq_false H]; rfl
theorem stB_hi {p h x : Int} {L : List Int} (H : ¬ x ≤ h) : false = stB p h x L := by unfold stB; rw [decide_eq_false H, Bool.and_false]; rfl
theorem stB_in {p h x : Int} {L : List Int} (H : 1 ≤ x) (H2 : x ≤ h) : inside p L = stB p h x L := by unfold stB; rw [decide_eq_true H, decide_eq_true H2]; rfl
theorem stB_bd {p h x : Int} {L : List Int} (H : stB p h x L = true) : 1 ≤ x ∧ x ≤ h ∧ inside p L = true := by
  unfold stB at H; simp only [Bool.and_eq_true, decide_eq_true_eq] at H; exact ⟨H.1.1, H.1.2, H.2⟩

set_option maxRecDepth 100000 in
set_option maxHeartbeats 1000000 in
theorem stands_any (p n h x : Int) (B : Option Addr) (L : List Int) (c : Nat) (w : World) (hI : IntsAt w B L) (hl : L.length ≤ 1099511627776) :
    Calls Tryd.prog 71 #[planV p n h, shV x (.slice B L.length c)] w (RetB (.bool (stB p h x L)) w) := by
  have HI := Lib.hid hI
  clear hI
  by_cases h1 : 1 ≤ x
  · by_cases h2 : x ≤ h
    · have HV := Lib.hid (stB_in (p := p) (L := L) h1 h2)
      go_enter Tryd.func71, Tryd.ntmps71
      go_wp2_with fail
      refine ret_below (elements_plan p n h B L c _ ((HI.out.below (below_alloc _ _)).below (below_alloc _ _)) hl) ?_
      intro w1 hb1
      go_wp2_with fail
      go_ret
      exact RetB.bool HV.out (below_trans (below_trans (below_alloc _ _) (below_alloc _ _)) hb1)
    · have HV := Lib.hid (stB_hi (p := p) (L := L) h2)
      go_enter Tryd.func71, Tryd.ntmps71
      go_wp2_with fail
      go_ret
      exact RetB.bool HV.out (below_trans (below_alloc _ _) (below_alloc _ _))
  · have HV := Lib.hid (stB_lo (p := p) (h := h) (L := L) h1)
    go_enter Tryd.func71, Tryd.ntmps71
    go_wp2_with fail
    go_ret
    exact RetB.bool HV.out (below_trans (below_alloc _ _) (below_alloc _ _))

set_option maxRecDepth 100000 in
set_option maxHeartbeats 1000000 in
theorem refStands_any (p n h x : Int) (B : Option Addr) (L : List Int) (c : Nat) (w : World) (hv : primeV p = true) (hI : IntsAt w B L) (hl : L.length ≤ 1099511627776) :
    Calls Tryd.prog 73 #[planV p n h, shV x (.slice B L.length c)] w (RetB (.bool (stB p h x L)) w) := by
  have hc : ∀ W, IntsAt W B L → Calls Tryd.prog 68 #[.int .i64 p, .slice B L.length c] W (Ret (.bool (inside p L)) W) := fun W hW => by
    have := elems_ref B L c p W hW hl
    unfold elemsI at this
    rw [hv, Bool.and_true] at this
    exact this
  have HC := Lib.hid hc
  have HI := Lib.hid hI
  clear hI hv hc
  by_cases h1 : 1 ≤ x
  · by_cases h2 : x ≤ h
    · have HV := Lib.hid (stB_in (p := p) (L := L) h1 h2)
      go_enter Tryd.func73, Tryd.ntmps73
      go_wp2_with fail
      refine ret_pure (HC.out _ ((HI.out.below (below_alloc _ _)).below (below_alloc _ _))) ?_
      go_wp2_with fail
      go_ret
      exact RetB.bool HV.out (below_trans (below_alloc _ _) (below_alloc _ _))
    · have HV := Lib.hid (stB_hi (p := p) (L := L) h2)
      go_enter Tryd.func73, Tryd.ntmps73
      go_wp2_with fail
      go_ret
      exact RetB.bool HV.out (below_trans (below_alloc _ _) (below_alloc _ _))
  · have HV := Lib.hid (stB_lo (p := p) (h := h) (L := L) h1)
    go_enter Tryd.func73, Tryd.ntmps73
    go_wp2_with fail
    go_ret
    exact RetB.bool HV.out (below_trans (below_alloc _ _) (below_alloc _ _))

/-! ### Good -/
/-- What each share of a good list satisfies. -/
structure GdAt (p h : Int) (S : List Shr) (k : Nat) : Prop where
  st : stB p h (hS S k) (vS S k) = true
  len : (vS S k).length = (vS S 0).length
  few : (vS S k).length ≤ 2048
  new : ∀ j, j < k → hS S j ≠ hS S k
def GdP (p h : Int) (S : List Shr) : Prop := ∀ k, k < S.length → GdAt p h S k
noncomputable def gdB (p h : Int) (S : List Shr) : Bool := @decide (GdP p h S) (Classical.propDecidable _)
theorem gdB_no {p h : Int} {S : List Shr} (k : Nat) (hk : k < S.length) (H : ¬ GdAt p h S k) : false = gdB p h S := (@decide_eq_false _ (Classical.propDecidable _) (fun g => H (g k hk))).symm
theorem gdB_yes {p h : Int} {S : List Shr} (H : GdP p h S) : true = gdB p h S := (@decide_eq_true _ (Classical.propDecidable _) H).symm
theorem gdB_of {p h : Int} {S : List Shr} (H : gdB p h S = true) : GdP p h S := @of_decide_eq_true _ (Classical.propDecidable _) H
theorem gdB_of_not {p h : Int} {S : List Shr} (H : gdB p h S = false) : ¬ GdP p h S := @of_decide_eq_false _ (Classical.propDecidable _) H
/-- No list is longer than this. -/
def Short (S : List Shr) : Prop := ∀ k, k < S.length → (vS S k).length ≤ 1048576
theorem size_alloc (w : World) (o : Obj) : (w.alloc o).heap.size = w.heap.size + 1 := by simp
/-- Block g: which numbers have been seen. -/
structure SeenAt (w : World) (g : Nat) (f : Nat → Bool) : Prop where
  lt : g < w.heap.size
  cell : ∀ j, j < 17 → w.cell? ⟨g, j, none⟩ = some (.bool (f j))
  free : ∀ j, w.frozen? ⟨g, j, none⟩ = false
theorem SeenAt.below {w w' : World} {g : Nat} {f : Nat → Bool} (h : SeenAt w g f) (hb : Below w.heap.size w w') : SeenAt w' g f :=
  ⟨Nat.lt_of_lt_of_le h.lt hb.size, fun j hj => (hb.cell h.lt).trans (h.cell j hj), fun j => (hb.frozen (p := ⟨g, j, none⟩) h.lt).trans (h.free j)⟩
theorem SeenAt.set_ {w : World} {g : Nat} {f : Nat → Bool} (h : SeenAt w g f) (j : Nat) (hj : j < 17) : SeenAt (w.setCell ⟨g, j, none⟩ (.bool true)) g (fun i => if i = j then true else f i) := by
  refine ⟨by have := h.lt; simpa [World.setCell] using this, fun i hi => ?_, fun i => ?_⟩
  · by_cases e : i = j
    · subst e
      rw [World.cell?_setCell_same _ _ _ (by rw [h.cell i hi])]; simp
    · rw [World.cell?_setCell_other _ _ _ _ (fun e' => by injection e' with e1 e2; exact e e2.symm), h.cell i hi, if_neg e]
  · rw [World.frozen?_setCell]; exact h.free i
def seenF (S : List Shr) (k : Nat) (m : Nat) : Bool := (List.range k).any fun j => decide (hS S j = (m : Int))
theorem seenF_zero (S : List Shr) (m : Nat) : seenF S 0 m = false := rfl
theorem seenF_succ (S : List Shr) (k : Nat) (x : Nat) (hx : hS S k = (x : Int)) (m : Nat) : seenF S (k + 1) m = if m = x then true else seenF S k m := by
  unfold seenF
  rw [List.range_succ, List.any_append]
  simp only [List.any_cons, List.any_nil, Bool.or_false, hx]
  by_cases e : m = x
  · subst e; simp
  · rw [if_neg e, decide_eq_false (by omega), Bool.or_false]
theorem seenF_yes {S : List Shr} {k x : Nat} (hx : hS S k = (x : Int)) (h : seenF S k x = true) : ¬ ∀ j, j < k → hS S j ≠ hS S k := fun g => by
  unfold seenF at h
  rw [List.any_eq_true] at h
  obtain ⟨j, hj, hd⟩ := h
  exact g j (List.mem_range.1 hj) (by rw [of_decide_eq_true hd, hx])
theorem seenF_no {S : List Shr} {k x : Nat} (hx : hS S k = (x : Int)) (h : seenF S k x = false) : ∀ j, j < k → hS S j ≠ hS S k := fun j hj e => by
  unfold seenF at h
  rw [List.any_eq_false] at h
  exact h j (List.mem_range.2 hj) (by rw [e, hx]; simp)
end Go.Proofs.YtlhipgejiacklaaDoor
namespace Go.Proofs.YtlhipgejiacklaaDoor
open Go.RowKit

theorem not_gd_st {p h : Int} {S : List Shr} {k : Nat} (H : stB p h (hS S k) (vS S k) = false) : ¬ GdAt p h S k := fun g => by have := g.st; rw [H] at this; cases this
set_option maxRecDepth 100000 in
set_option maxHeartbeats 4000000 in
theorem good_any {P : Nat → Prop} (p n h : Int) (A : Option Addr) (c : Nat) (S : List Shr) (w : World) (hS : ShP P w A c S) (hsh : Short S) (hh : h ≤ 16) (hl : S.length ≤ 1048576) :
    Calls Tryd.prog 55 #[planV p n h, .slice A S.length c] w (RetB (.bool (gdB p h S)) w) := by
  have HS := Lib.hid hS
  have HSH := Lib.hid hsh
  clear hS hsh
  go_enter Tryd.func55, Tryd.ntmps55
  go_wp2_with fail
  go_loopw [10] (fun i wr => ∃ k : Nat, k ≤ S.length ∧ i = .int .i64 k ∧ (∀ j, j < k → GdAt p h S j) ∧ PlanCell wr w.heap.size p n h ∧ SeenAt wr (w.heap.size + 1) (seenF S k) ∧ Below w.heap.size w wr) (fun i _ => S.length - (intOf i).toNat)
  case atStart =>
    refine ⟨0, Nat.zero_le _, rfl, fun j hj => absurd hj (by omega), (PlanCell.new p n h rfl).alloc _, ⟨by simp, fun j hj => ?_, fun j => ?_⟩, below_trans (below_alloc _ _) (below_alloc _ _)⟩
    · have e := heap_alloc_new (w.alloc (.cells #[.int .i64 p, .int .i64 n, .int .i64 h] 28)) (.cells (Array.replicate 17 (.bool false)) 98)
      rw [size_alloc] at e
      rw [show #[Value.bool false, Value.bool false, Value.bool false, Value.bool false, Value.bool false, Value.bool false, Value.bool false, Value.bool false, Value.bool false, Value.bool false, Value.bool false, Value.bool false, Value.bool false, Value.bool false, Value.bool false, Value.bool false, Value.bool false] = Array.replicate 17 (.bool false) from rfl, cell_of_row _ _ j _ _ (0, 0) e]
      simp [hj, seenF_zero]
    · have e := heap_alloc_new (w.alloc (.cells #[.int .i64 p, .int .i64 n, .int .i64 h] 28)) (.cells #[Value.bool false, Value.bool false, Value.bool false, Value.bool false, Value.bool false, Value.bool false, Value.bool false, Value.bool false, Value.bool false, Value.bool false, Value.bool false, Value.bool false, Value.bool false, Value.bool false, Value.bool false, Value.bool false, Value.bool false] 98)
      rw [size_alloc] at e
      unfold World.frozen?; rw [e]; simp
  case round =>
    obtain ⟨k, hk, rfl, hgd, hpl, hsn, hbr⟩ := hrel
    have HG := Lib.hid hgd
    clear hgd
    by_cases hlt : k < S.length
    · obtain ⟨b, off, B, c1, hA, hb, hPb, h1, h2, h3⟩ := (HS.out.below hbr).at_ k hlt
      obtain ⟨b0, off0, B0, c0, hA0, hb0, -, -, z1, -⟩ := (HS.out.below hbr).at_ 0 (by omega)
      rw [hA] at hA0
      injection hA0 with e0
      injection e0 with e1 e2
      subst e1; subst e2; subst hA
      rw [Nat.zero_mul, Nat.add_zero] at z1
      have hI := Lib.hid h3.ints
      have hvl := HSH.out k hlt
      have hvl0 := HSH.out 0 (by omega)
      have HGD : Hid (∀ (l0 : Nat), l0 = (vS S 0).length → (stB p h (hS S k) (vS S k) = false ∨ (∃ m : Nat, hS S k = (m : Int) ∧ seenF S k m = true) ∨ (vS S k).length ≠ l0 ∨ 2048 < (vS S k).length) → false = gdB p h S) := fun l0 hl0 hc => by
        subst hl0
        refine gdB_no k hlt ?_
        rcases hc with hc | ⟨m, hm, hc⟩ | hc | hc
        · exact not_gd_st hc
        · exact fun g => seenF_yes hm hc g.new
        · exact fun g => hc g.len
        · exact fun g => by have := g.few; omega
      have HOK : Hid (∀ (m : Nat), hS S k = (m : Int) → stB p h (hS S k) (vS S k) = true → seenF S k m = false → (vS S k).length = (vS S 0).length → (vS S k).length ≤ 2048 → GdAt p h S k) :=
        fun m hm h1 h2 h3 h4 => ⟨h1, h3, h4, seenF_no hm h2⟩
      have HSF : Hid (∀ m : Nat, hS S k = (m : Int) → seenF S (k + 1) = fun i => if i = m then true else seenF S k i) := fun m hm => funext fun i => seenF_succ S k m hm i
      generalize hS S k = x at *
      generalize vS S k = L at *
      obtain ⟨l0, hl0⟩ : ∃ l0, l0 = (vS S 0).length := ⟨_, rfl⟩
      rw [← hl0] at z1 hvl0 HOK
      have HL0 := Lib.hid hl0
      clear h3 hl0
      go_wp2_with fail
      refine gen_world fun w1 hw1 => ?_
      have hb1 : Below wr.heap.size wr w1 := by rw [hw1]; exact below_alloc _ _
      have hsc : ShCell w1 wr.heap.size x (.slice B L.length c1) := by rw [hw1]; exact ShCell.new _ _ rfl
      have hp1 := hpl.below hb1
      have hs1 := hsn.below hb1
      have s0 := hsc.c0
      have s1 := hsc.c1
      have p0 := hp1.c0
      have p1 := hp1.c1
      have p2 := hp1.c2
      have lp := hp1.lt
      have ln := hs1.lt
      have ls := blk_lt hsc
      have z2 := (hb1.cell (p := ⟨b, off + 1, none⟩) hb).trans z1
      have lb := Nat.lt_of_lt_of_le hb hb1.size
      have HST := Lib.hid (fun (W : World) (hb : Below w1.heap.size w1 W) => stands_any p n h x B L c1 W ((hI.out.below hb1).below hb) (by omega))
      have hbw := below_trans hbr hb1
      have HSB := Lib.hid (fun (H : stB p h x L = true) => stB_bd H)
      clear hw1 h1 h2 z1 hsc hsn hI
      generalize stB p h x L = st at *
      cases st with
      | false =>
        have HV := Lib.hid (HGD.out l0 HL0.out (.inl rfl))
        clear hp1 hs1
        refine wp_region_grew (by kernel_rfl) (by kernel_rfl) ?_
        repeat (go_big_quiet_step ((go_at_call 71; exact grew_of (HST.out _ (grewW.below _ _)))))
        refine wpQuiet_nil ?_
        intro w2 hb2
        go_wp2_with fail
        go_ret
        exact RetB.bool HV.out (below_trans hbw hb2)
      | true =>
        obtain ⟨x1, x2, -⟩ := HSB.out rfl
        obtain ⟨m, rfl⟩ := Int.eq_ofNat_of_zero_le (show 0 ≤ x by omega)
        have hm17 : m < 17 := by omega
        have i1 : (0 : Int) ≤ (m : Int) := by omega
        have i2 : (m : Int) < 17 := by omega
        have y1 := hs1.cell m hm17
        have y2 := hs1.free m
        cases hsv : seenF S k m with
        | true =>
          have HV := Lib.hid (HGD.out l0 HL0.out (.inr (.inl ⟨m, rfl, hsv⟩)))
          rw [hsv] at y1
          clear hp1 hs1 hsv
          refine wp_region_grew (by kernel_rfl) (by kernel_rfl) ?_
          repeat (go_big_quiet_step ((go_at_call 71; exact grew_of (HST.out _ (grewW.below _ _)))))
          refine wpQuiet_nil ?_
          intro w2 hb2
          go_wp2_with fail
          go_ret
          exact RetB.bool HV.out (below_trans hbw hb2)
        | false =>
          rw [hsv] at y1
          have HSV := Lib.hid hsv
          clear hsv
          by_cases hle : L.length = l0
          · have t1 : ((L.length : Int) != (l0 : Int)) = false := by simp; omega
            by_cases hfw : 2048 < L.length
            · have HV := Lib.hid (HGD.out l0 HL0.out (.inr (.inr (.inr hfw))))
              have t2 : decide (2048 < (L.length : Int)) = true := decide_eq_true (by omega)
              clear hp1 hs1 hle
              refine wp_region_grew (by kernel_rfl) (by kernel_rfl) ?_
              repeat (go_big_quiet_step ((go_at_call 71; exact grew_of (HST.out _ (grewW.below _ _)))))
              refine wpQuiet_nil ?_
              intro w2 hb2
              go_wp2_with fail
              go_ret
              exact RetB.bool HV.out (below_trans hbw hb2)
            · have HK := Lib.hid (HOK.out m rfl rfl HSV.out hle (by omega))
              have t2 : decide (2048 < (L.length : Int)) = false := decide_eq_false (by omega)
              have HP1 := Lib.hid hp1
              have HS1 := Lib.hid hs1
              clear hp1 hs1 hle
              refine wp_region_grew (by kernel_rfl) (by kernel_rfl) ?_
              repeat (go_big_quiet_step ((go_at_call 71; exact grew_of (HST.out _ (grewW.below _ _)))))
              refine wpQuiet_nil ?_
              intro w2 hb2
              have k0 := (hb2.cell (p := ⟨wr.heap.size, 0, none⟩) ls).trans s0
              have k1 := (HS1.out.below hb2).cell m hm17
              have k2 := (HS1.out.below hb2).free m
              go_wp2_with fail
              go_roundw
              case rel =>
                refine ⟨k + 1, by omega, by go_num, fun j hj => ?_, ?_, ?_, ?_⟩
                · by_cases hjk : j = k
                  · subst hjk; exact HK.out
                  · exact HG.out j (by omega)
                · exact (HP1.out.below hb2).keep (Below.heap_setCell _ _ _ _ (by simp))
                · rw [HSF.out m rfl]; exact (HS1.out.below hb2).set_ m hm17
                · exact (below_trans hbw hb2).setCell (by simp) _
              case measure => simp [intOf]; omega
          · have HV := Lib.hid (HGD.out l0 HL0.out (.inr (.inr (.inl hle))))
            have t1 : ((L.length : Int) != (l0 : Int)) = true := by simp; omega
            clear hp1 hs1
            refine wp_region_grew (by kernel_rfl) (by kernel_rfl) ?_
            repeat (go_big_quiet_step ((go_at_call 71; exact grew_of (HST.out _ (grewW.below _ _)))))
            refine wpQuiet_nil ?_
            intro w2 hb2
            go_wp2_with fail
            go_ret
            exact RetB.bool HV.out (below_trans hbw hb2)
    · have HV := Lib.hid (gdB_yes (fun j hj => HG.out j (by omega)))
      go_wp2_with fail
      go_ret
      exact RetB.bool HV.out hbr
end Go.Proofs.YtlhipgejiacklaaDoor
namespace Go.Proofs.YtlhipgejiacklaaDoor
open Go.RowKit

attribute [local go_sem high] sliced_low
set_option maxRecDepth 100000 in
set_option maxHeartbeats 4000000 in
theorem refGood_any {P : Nat → Prop} (p n h : Int) (A : Option Addr) (c : Nat) (S : List Shr) (w : World) (hv : primeV p = true) (hS : ShP P w A c S) (hsh : Short S) (hl : S.length ≤ 1048576) :
    Calls Tryd.prog 64 #[planV p n h, .slice A S.length c] w (RetB (.bool (gdB p h S)) w) := by
  have HV0 := Lib.hid hv
  have HS := Lib.hid hS
  have HSH := Lib.hid hsh
  have hcl := hS.ok.len
  clear hS hsh hv
  go_enter Tryd.func64, Tryd.ntmps64
  go_wp2_with fail
  go_loopw [11] (fun i wr => ∃ k : Nat, k ≤ S.length ∧ i = .int .i64 k ∧ (∀ j, j < k → GdAt p h S j) ∧ PlanCell wr w.heap.size p n h ∧ Below w.heap.size w wr) (fun i _ => S.length - (intOf i).toNat)
  case atStart => exact ⟨0, Nat.zero_le _, rfl, fun j hj => absurd hj (by omega), PlanCell.new p n h rfl, below_alloc _ _⟩
  case round =>
    obtain ⟨k, hk, rfl, hgd, hpl, hbr⟩ := hrel
    have HG := Lib.hid hgd
    clear hgd
    by_cases hlt : k < S.length
    · obtain ⟨b, off, B, c1, hA, hb, hPb, h1, h2, h3⟩ := (HS.out.below hbr).at_ k hlt
      obtain ⟨b0, off0, B0, c0, hA0, hb0, -, -, z1, -⟩ := (HS.out.below hbr).at_ 0 (by omega)
      rw [hA] at hA0
      injection hA0 with e0
      injection e0 with e1 e2
      subst e1; subst e2; subst hA
      rw [Nat.zero_mul, Nat.add_zero] at z1
      have hI := Lib.hid h3.ints
      have hvl := HSH.out k hlt
      have hvl0 := HSH.out 0 (by omega)
      have HGD : Hid (∀ (l0 : Nat), l0 = (vS S 0).length → (stB p h (hS S k) (vS S k) = false ∨ (∃ j, j < k ∧ hS S j = hS S k) ∨ (vS S k).length ≠ l0 ∨ 2048 < (vS S k).length) → false = gdB p h S) := fun l0 hl0 hc => by
        subst hl0
        refine gdB_no k hlt ?_
        rcases hc with hc | ⟨j, hj, hc⟩ | hc | hc
        · exact not_gd_st hc
        · exact fun g => g.new j hj hc
        · exact fun g => hc g.len
        · exact fun g => by have := g.few; omega
      have HOK : Hid (stB p h (hS S k) (vS S k) = true → (∀ j, j < k → hS S j ≠ hS S k) → (vS S k).length = (vS S 0).length → (vS S k).length ≤ 2048 → GdAt p h S k) :=
        fun h1 h2 h3 h4 => ⟨h1, h3, h4, h2⟩
      generalize hx : hS S k = x at *
      generalize vS S k = L at *
      obtain ⟨l0, hl0⟩ : ∃ l0, l0 = (vS S 0).length := ⟨_, rfl⟩
      rw [← hl0] at z1 hvl0 HOK
      have HL0 := Lib.hid hl0
      have HX := Lib.hid hx
      clear h3 hl0 hx
      go_wp2_with fail
      refine gen_world fun w1 hw1 => ?_
      have hb1 : Below wr.heap.size wr w1 := by rw [hw1]; exact below_alloc _ _
      have hsc : ShCell w1 wr.heap.size x (.slice B L.length c1) := by rw [hw1]; exact ShCell.new _ _ rfl
      have hp1 := hpl.below hb1
      have s0 := hsc.c0
      have s1 := hsc.c1
      have p0 := hp1.c0
      have p1 := hp1.c1
      have p2 := hp1.c2
      have lp := hp1.lt
      have ls := blk_lt hsc
      have z2 := (hb1.cell (p := ⟨b, off + 1, none⟩) hb).trans z1
      have lb := Nat.lt_of_lt_of_le hb hb1.size
      have HST := Lib.hid (fun (W : World) (hb : Below w1.heap.size w1 W) => refStands_any p n h x B L c1 W HV0.out ((hI.out.below hb1).below hb) (by omega))
      have hbw := below_trans hbr hb1
      clear hw1 h1 h2 z1 hI
      generalize stB p h x L = st at *
      cases st with
      | false =>
        have HV := Lib.hid (HGD.out l0 HL0.out (.inl rfl))
        clear hp1 hsc
        refine wp_region_grew (by kernel_rfl) (by kernel_rfl) ?_
        repeat (go_big_quiet_step ((go_at_call 73; exact grew_of (HST.out _ (grewW.below _ _)))))
        refine wpQuiet_nil ?_
        intro w2 hb2
        go_wp2_with fail
        go_ret
        exact RetB.bool HV.out (below_trans hbw hb2)
      | true =>
        by_cases hle : L.length = l0
        · have t1 : ((L.length : Int) != (l0 : Int)) = false := by simp; omega
          by_cases hfw : 2048 < L.length
          · have HV := Lib.hid (HGD.out l0 HL0.out (.inr (.inr (.inr hfw))))
            have t2 : decide (2048 < (L.length : Int)) = true := decide_eq_true (by omega)
            clear hp1 hle hsc
            refine wp_region_grew (by kernel_rfl) (by kernel_rfl) ?_
            repeat (go_big_quiet_step ((go_at_call 73; exact grew_of (HST.out _ (grewW.below _ _)))))
            refine wpQuiet_nil ?_
            intro w2 hb2
            go_wp2_with fail
            go_ret
            exact RetB.bool HV.out (below_trans hbw hb2)
          · have HK := Lib.hid (fun H => HOK.out rfl H hle (by omega))
            have t2 : decide (2048 < (L.length : Int)) = false := decide_eq_false (by omega)
            have HP1 := Lib.hid hp1
            have HSC := Lib.hid hsc
            have i1 : (0 : Int) ≤ (k : Int) := by omega
            have i2 : (k : Int) ≤ (c : Int) := by omega
            clear hp1 hle hsc
            refine wp_region_grew (by kernel_rfl) (by kernel_rfl) ?_
            repeat (go_big_quiet_step ((go_at_call 73; exact grew_of (HST.out _ (grewW.below _ _)))))
            refine wpQuiet_nil ?_
            intro w2 hb2
            go_wp2_with fail
            have hbw2 := below_trans hbw hb2
            have hsz := hbw2.size
            have HSC2 := Lib.hid (HSC.out.below hb2)
            have HP2 := Lib.hid (HP1.out.below hb2)
            clear s0 s1 p0 p1 p2 z2
            go_loopw [41] (fun i wi => ∃ j : Nat, j ≤ k ∧ i = .int .i64 j ∧ (∀ i, i < j → hS S i ≠ x) ∧ Below w2.heap.size w2 wi) (fun i _ => k - (intOf i).toNat)
            case atStart => exact ⟨0, Nat.zero_le _, rfl, fun i hi => absurd hi (by omega), Below.refl _ _⟩
            case round =>
              obtain ⟨j, hj, rfl, hne, hbi⟩ := hrel
              have HNE := Lib.hid hne
              have hbwi := below_trans hbw2 hbi
              clear hne
              by_cases hjk : j < k
              · obtain ⟨b', off', B', c', hA, hb', -, g1, g2, -⟩ := (HS.out.below hbwi).at_ j (by omega)
                injection hA with e0
                injection e0 with e1 e2
                subst e1; subst e2
                have s0 := (HSC2.out.below hbi).c0
                have ls2 := blk_lt (HSC2.out.below hbi)
                have hxj : Hid (hS S j = x → false = gdB p h S) := fun h2 => HGD.out l0 HL0.out (.inr (.inl ⟨j, hjk, h2⟩))
                generalize hy : hS S j = y at *
                have HY := Lib.hid hy
                clear hy
                by_cases hyx : y = x
                · have HV := Lib.hid (hxj.out hyx)
                  have t3 : (y == x) = true := by rw [hyx]; simp
                  clear hyx
                  go_wp2_with fail
                  go_ret
                  exact RetB.bool HV.out (hbwi.alloc hbwi.size _)
                · have t3 : (y == x) = false := by simp [hyx]
                  have HYX := Lib.hid hyx
                  clear hyx
                  go_wp2_with fail
                  go_roundw
                  case rel =>
                    refine ⟨j + 1, by omega, by go_num, fun i hi => ?_, below_trans hbi (below_alloc _ _)⟩
                    by_cases hij : i = j
                    · subst hij; rw [HY.out]; exact HYX.out
                    · exact HNE.out i (by omega)
                  case measure => simp [intOf]; omega
              · have HGK := Lib.hid (HK.out (fun i hi => HNE.out i (by omega)))
                go_wp2_with fail
                go_roundw
                case rel =>
                  refine ⟨k + 1, by omega, by go_num, fun i hi => ?_, HP2.out.below hbi, hbwi⟩
                  by_cases hik : i = k
                  · subst hik; exact HGK.out
                  · exact HG.out i (by omega)
                case measure => simp [intOf]; omega
        · have HV := Lib.hid (HGD.out l0 HL0.out (.inr (.inr (.inl hle))))
          have t1 : ((L.length : Int) != (l0 : Int)) = true := by simp; omega
          clear hp1 hsc
          refine wp_region_grew (by kernel_rfl) (by kernel_rfl) ?_
          repeat (go_big_quiet_step ((go_at_call 73; exact grew_of (HST.out _ (grewW.below _ _)))))
          refine wpQuiet_nil ?_
          intro w2 hb2
          go_wp2_with fail
          go_ret
          exact RetB.bool HV.out (below_trans hbw hb2)
    · have HV := Lib.hid (gdB_yes (fun j hj => HG.out j (by omega)))
      go_wp2_with fail
      go_ret
      exact RetB.bool HV.out hbr
end Go.Proofs.YtlhipgejiacklaaDoor
namespace Go.Proofs.YtlhipgejiacklaaDoor
open Go.RowKit

abbrev ShN := Nat × List Nat
def shI (s : ShN) : Shr := ((s.1 : Int), ofN s.2)
def hN (N : List ShN) (k : Nat) : Nat := (N.getD k (0, [])).1
def vN (N : List ShN) (k : Nat) : List Nat := (N.getD k (0, [])).2
def shL (N : List ShN) : List Shr := N.map shI
theorem shL_len (N : List ShN) : (shL N).length = N.length := by simp [shL]
theorem hS_shL {N : List ShN} {k : Nat} (_ : k < N.length) : hS (shL N) k = (hN N k : Int) := by
  simp only [hS, hN, shL, List.getD_eq_getElem?_getD, List.getElem?_map]
  cases N[k]? <;> rfl
theorem vS_shL (N : List ShN) (k : Nat) : vS (shL N) k = ofN (vN N k) := by
  simp only [vS, vN, shL, List.getD_eq_getElem?_getD, List.getElem?_map]
  cases N[k]? <;> rfl
theorem shL_take (N : List ShN) (k : Nat) : (shL N).take k = shL (N.take k) := by simp [shL, List.map_take]
def hsN (N : List ShN) : List Nat := N.map Prod.fst
def colN (N : List ShN) (i : Nat) : List Nat := N.map fun s => nthN s.2 i
theorem hsN_len (N : List ShN) : (hsN N).length = N.length := by simp [hsN]
theorem colN_len (N : List ShN) (i : Nat) : (colN N i).length = N.length := by simp [colN]
theorem hsN_nth {N : List ShN} {k : Nat} (h : k < N.length) : nthN (hsN N) k = hN N k := by
  rw [nthN_eq (by rw [hsN_len]; exact h)]; simp [hsN, hN, List.getD_eq_getElem?_getD, h]
theorem colN_nth {N : List ShN} {i k : Nat} (h : k < N.length) : nthN (colN N i) k = nthN (vN N k) i := by
  rw [nthN_eq (by rw [colN_len]; exact h)]; simp [colN, vN, List.getD_eq_getElem?_getD, h]
theorem getD_at {N : List ShN} {k : Nat} (h : k < N.length) : N[k] = (hN N k, vN N k) := by simp [hN, vN, List.getD_eq_getElem?_getD, h]
theorem hsN_take {N : List ShN} {k : Nat} (h : k < N.length) : hsN (N.take (k + 1)) = hsN (N.take k) ++ [hN N k] := by
  rw [List.take_succ_eq_append_getElem h, getD_at h]; simp only [hsN, List.map_append, List.map_cons, List.map_nil]
theorem colN_take {N : List ShN} {i k : Nat} (h : k < N.length) : colN (N.take (k + 1)) i = colN (N.take k) i ++ [nthN (vN N k) i] := by
  rw [List.take_succ_eq_append_getElem h, getD_at h]; simp only [colN, List.map_append, List.map_cons, List.map_nil]
theorem hN_take {N : List ShN} {k j : Nat} (h : j < k) : hN (N.take k) j = hN N j := by simp [hN, List.getD_eq_getElem?_getD, h]
theorem vN_take {N : List ShN} {k j : Nat} (h : j < k) : vN (N.take k) j = vN N j := by simp [vN, List.getD_eq_getElem?_getD, h]
theorem shl_mem {N : List ShN} {s : ShN} (h : s ∈ N) : ∃ k, k < N.length ∧ s = (hN N k, vN N k) := by
  obtain ⟨k, hk, e⟩ := List.getElem_of_mem h
  exact ⟨k, hk, by rw [← e, getD_at hk]⟩
/-- A share in a list of natural shares, in memory. -/
theorem ShP.nat {P : Nat → Prop} {w : World} {A : Option Addr} {c : Nat} {N : List ShN} (h : ShP P w A c (shL N)) {k : Nat} (hk : k < N.length) :
    ∃ b off B c', A = some ⟨b, off, none⟩ ∧ b < w.heap.size ∧ P b ∧ w.cell? ⟨b, off + k * 2, none⟩ = some (.int .i64 (hN N k : Nat)) ∧
      w.cell? ⟨b, off + k * 2 + 1, none⟩ = some (.slice B (vN N k).length c') ∧ NatsAt w B (vN N k) ∧ IntsP P w B c' (ofN (vN N k)) := by
  obtain ⟨b, off, B, c', hA, hb, hP, h1, h2, h3⟩ := h.at_ k (by rw [shL_len]; exact hk)
  rw [hS_shL hk] at h1
  rw [vS_shL, len_ofN] at h2
  rw [vS_shL] at h3
  exact ⟨b, off, B, c', hA, hb, hP, h1, h2, h3.ints.nats, h3⟩
theorem ShP.cap {P : Nat → Prop} {w : World} {A : Option Addr} {c : Nat} {N : List ShN} (h : ShP P w A c (shL N)) : N.length ≤ c := by
  have := h.ok.len; rw [shL_len] at this; exact this

theorem lit1_at (w : World) (g x : Nat) (h : g = w.heap.size) : NatBlk (w.alloc (.cells #[.int .i64 (x : Int)] 3)) g [x] := by subst h; exact lit1_nats w x
set_option maxRecDepth 100000 in
set_option maxHeartbeats 1000000 in
theorem holders_any {P : Nat → Prop} (A : Option Addr) (c : Nat) (N : List ShN) (w : World) (hS : ShP P w A c (shL N)) (hl : N.length ≤ 1048576) :
    Calls Tryd.prog 80 #[.slice A N.length c] w (NewList (hsN N) w) := by
  have HS := Lib.hid hS
  clear hS
  go_enter Tryd.func80, Tryd.ntmps80
  go_wp2_with fail
  go_loopw [3, 8] (fun o i wr => ∃ k : Nat, k ≤ N.length ∧ i = .int .i64 k ∧ wr.ownsRow w.heap.size 3 1 o (hsN (N.take k)).length (valsN (hsN (N.take k))) ∧ Below w.heap.size w wr) (fun _ i _ => N.length - (intOf i).toNat)
  case atStart => exact ⟨0, Nat.zero_le _, rfl, World.ownsRow_nil _ _ _ _, Below.refl _ _⟩
  case round =>
    obtain ⟨k, hk, rfl, hown, hb⟩ := hrel
    have hsz := hb.size
    by_cases hlt : k < N.length
    · obtain ⟨b, off, B, c', rfl, hbl, -, h1, h2, -, -⟩ := (HS.out.below hb).nat hlt
      have HT := Lib.hid (hsN_take hlt)
      have hln : (hsN (N.take k)).length ≤ 1048576 := by rw [hsN_len]; simp; omega
      generalize hsN (N.take k) = S at *
      generalize hN N k = x at *
      go_wp2_with (at_builtin; refine app_nats rfl (.tmp 12) (.tmp 15) rfl (base := w.heap.size) (S := S) (T := [x]) rfl ((hown.alloc _).alloc _) rfl ((lit1_at _ _ x (by simp)).nats.news rfl) (by simp; omega) (by simp; omega) ?_; intro v4 w4 hown4 hg4 hb4)
      go_roundw
      case rel => exact ⟨k + 1, by omega, by go_num, by rw [HT.out]; exact hown4, hb.trans (below_of_alloc (below_of_alloc hb4 (by simp; omega)) hsz)⟩
      case measure => simp [intOf]; omega
    · obtain rfl : k = N.length := by omega
      rw [List.take_length] at hown
      go_wp2_with fail
      go_ret
      exact ⟨_, rfl, hown, hb⟩

set_option maxRecDepth 100000 in
set_option maxHeartbeats 1000000 in
theorem values_any {P : Nat → Prop} (A : Option Addr) (c : Nat) (N : List ShN) (i : Nat) (w : World) (hS : ShP P w A c (shL N)) (hl : N.length ≤ 1048576) (hi : ∀ k, k < N.length → i < (vN N k).length) (hi2 : i ≤ 1048576) :
    Calls Tryd.prog 87 #[.slice A N.length c, .int .i64 i] w (NewList (colN N i) w) := by
  have HS := Lib.hid hS
  have HI := Lib.hid hi
  clear hS hi
  go_enter Tryd.func87, Tryd.ntmps87
  go_wp2_with fail
  go_loopw [5, 10] (fun o i' wr => ∃ k : Nat, k ≤ N.length ∧ i' = .int .i64 k ∧ wr.ownsRow w.heap.size 3 1 o (colN (N.take k) i).length (valsN (colN (N.take k) i)) ∧ Below w.heap.size w wr) (fun _ i' _ => N.length - (intOf i').toNat)
  case atStart => exact ⟨0, Nat.zero_le _, rfl, World.ownsRow_nil _ _ _ _, Below.refl _ _⟩
  case round =>
    obtain ⟨k, hk, rfl, hown, hb⟩ := hrel
    have hsz := hb.size
    by_cases hlt : k < N.length
    · obtain ⟨b, off, B, c', rfl, hbl, -, h1, h2, hN, -⟩ := (HS.out.below hb).nat hlt
      obtain ⟨b2, o2, rfl, hb2, hc2⟩ := hN i (HI.out k hlt)
      have hik := HI.out k hlt
      have HT := Lib.hid (colN_take (i := i) hlt)
      have hln : (colN (N.take k) i).length ≤ 1048576 := by rw [colN_len]; simp; omega
      have i1 : (0 : Int) ≤ (i : Int) := by omega
      have i2 : (i : Int) < ((vN N k).length : Int) := by omega
      clear hN
      generalize colN (N.take k) i = S at *
      generalize nthN (vN N k) i = x at *
      go_wp2_with (at_builtin; refine app_nats rfl (.tmp 14) (.tmp 20) rfl (base := w.heap.size) (S := S) (T := [x]) rfl ((hown.alloc _).alloc _) rfl ((lit1_at _ _ x (by simp)).nats.news rfl) (by simp; omega) (by simp; omega) ?_; intro v4 w4 hown4 hg4 hb4)
      go_roundw
      case rel => exact ⟨k + 1, by omega, by go_num, by rw [HT.out]; exact hown4, hb.trans (below_of_alloc (below_of_alloc hb4 (by simp; omega)) hsz)⟩
      case measure => simp [intOf]; omega
    · obtain rfl : k = N.length := by omega
      rw [List.take_length] at hown
      go_wp2_with fail
      go_ret
      exact ⟨_, rfl, hown, hb⟩
end Go.Proofs.YtlhipgejiacklaaDoor
