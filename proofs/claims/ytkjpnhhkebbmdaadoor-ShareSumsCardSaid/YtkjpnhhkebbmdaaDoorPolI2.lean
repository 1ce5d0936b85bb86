/-
  Polynomials: weights of places and values between points, by the document.
-/
import Derived.Test.YtkjpnhhkebbmdaaDoorPolH2
namespace Go.Proofs.YtkjpnhhkebbmdaaDoor
open Go.RowKit

theorem one_tmod (p : Nat) (hp : 1 ≤ p) : (1 : Int).tmod (p : Int) = (fone p : Nat) := by
  rw [Int.tmod_eq_emod_of_nonneg (by omega)]; rfl
theorem mul_tmod {p a b : Nat} : ((a : Int) * (b : Int)).tmod (p : Int) = (fmul p a b : Nat) := by
  rw [← Int.natCast_mul, Int.tmod_eq_emod_of_nonneg (by omega)]; rfl
theorem mul_wrap {p a b : Nat} (ha : a < p) (hb : b < p) (hp2 : p ≤ 2147483648) : IntKind.i64.wrap ((a : Int) * (b : Int)) = (a : Int) * (b : Int) := by
  have h := mulN_bound ha hb hp2
  have q1 : (a : Int) * (b : Int) = (a * b : Nat) := by push_cast; rfl
  exact IntWalk.i64_in _ (by omega)
theorem wsN_take {p : Nat} {L : List Nat} {x k : Nat} (h : k < L.length) : (wsN p L x).take (k + 1) = (wsN p L x).take k ++ [wN p L k x] := by
  have hk : k < (wsN p L x).length := by rw [wsN_len]; exact h
  rw [List.take_succ_eq_append_getElem hk, ← nthN_eq hk, wsN_nth p L x h]

set_option maxRecDepth 100000 in
set_option maxHeartbeats 2000000 in
theorem refWeights_any (p : Nat) (A : Option Addr) (L : List Nat) (cap x : Nat) (w : World) (hp : PrimeN p) (hp2 : p ≤ 2147483648) (hN : NatsAt w A L) (hS : SlOK A cap L) (hL : ∀ y ∈ L, y < p) (hl : L.length ≤ 1073741824) (hx : x < p) :
    Calls Tryd.prog 72 #[.int .i64 p, .slice A L.length cap, .int .i64 x] w (ListErr (wsR p L x) (ckE L) w) := by
  have hp2' := hp.1
  have hp1 : 1 ≤ p := by omega
  have t2 : ((p : Int) == 0) = false := by simp; omega
  have t3 : ¬ (p : Int) = 0 := by omega
  have hmx : Tryd.prog.follows .mixedOrders = true := by kernel_rfl
  have hpl := places_any A L cap w hN hS
  by_cases hz : L.length = 0
  · have t1 : ((L.length : Int) == 0) = true := by simp [hz]
    have hc : ckE L = 1 := ckE_zero hz
    have HR := Lib.hid (wsR_no (p := p) (x := x) (show ¬ ckE L = 0 by rw [hc]; omega))
    have HC := Lib.hid hc
    clear hz hc hpl hN hS hL
    go_enter Tryd.func72, Tryd.ntmps72
    go_wp2_with fail
    go_ret2
    rw [HR.out, HC.out]
    exact ListErr.nil _ (Below.refl _ _)
  · have t1 : ((L.length : Int) == 0) = false := by simp; exact fun e => hz (by rw [e]; rfl)
    have hck := ckE_pos hz
    rw [← hck] at hpl
    by_cases h0 : ckE L = 0
    · have HR := Lib.hid (wsR_ok (p := p) (x := x) h0)
      rw [h0] at hpl ⊢
      have HC := Lib.hid hpl
      have HN := Lib.hid hN
      have HL := Lib.hid (nthN_lt hp1 hL)
      have HLN := Lib.hid (wsN_len p L x)
      have HP := Lib.hid hp
      have ho1 := one_tmod p hp1
      have ho2 : (1 : Int) % (p : Int) = (fone p : Nat) := rfl
      have hof := fone_lt hp1
      clear h0 hpl hck hz hN hS hL hp
      go_enter Tryd.func72, Tryd.ntmps72
      go_wp2_with fail
      refine ret_pure HC.out ?_
      go_wp2_with fail
      go_loopw [9, 28] (fun l i wr => ∃ (k : Nat) (T : List Nat), k ≤ L.length ∧ i = .int .i64 k ∧ T = (wsN p L x).take k ∧ wr.ownsRow w.heap.size 3 1 l T.length (valsN T) ∧ Below w.heap.size w wr) (fun _ i _ => L.length - (intOf i).toNat)
      case atStart => exact ⟨0, [], by omega, rfl, rfl, World.ownsRow_nil _ _ _ _, Below.refl _ _⟩
      case round =>
        obtain ⟨i, T, hi, rfl, hT, hown, hbr⟩ := hrel
        have hTl : T.length ≤ i := by rw [hT]; exact List.length_take_le _ _
        have HT := Lib.hid hT
        clear hT
        by_cases hlt : i < L.length
        · obtain ⟨bA, oA, rfl, hbA, hcA⟩ := (HN.out.below hbr) i hlt
          have hxi := HL.out i
          have HHI := Lib.hid hlt
          go_wp2_with fail
          go_quiet (fail)
          go_wp2_with fail
          have hbr' := below_drewN hbr nq
          have hown' := own_below hown (below_drewN (Below.refl _ wr) nq)
          generalize wr.drewN nq = wo at *
          clear hown hbr hcA
          rename_i _ _
          go_loopw [12, 13, 39] (fun a b j wr => ∃ (k a' b' : Nat), k ≤ L.length ∧ j = .int .i64 k ∧ a = .int .i64 a' ∧ b = .int .i64 b' ∧ a' < p ∧ b' < p ∧ a' = topN p i x L k ∧ b' = topN p i (nthN L i) L k ∧ Below wo.heap.size wo wr) (fun _ _ j _ => L.length - (intOf j).toNat)
          case atStart => exact ⟨0, fone p, fone p, Nat.zero_le _, rfl, rfl, rfl, fone_lt hp1, fone_lt hp1, rfl, rfl, Below.refl _ _⟩
          case round =>
            obtain ⟨k, a, b, hk, rfl, rfl, rfl, ha, hb, hae, hbe, hbr2⟩ := hrel
            have HAE := Lib.hid hae
            have HBE := Lib.hid hbe
            clear hae hbe
            have hbw := below_trans hbr' hbr2
            by_cases hlt2 : k < L.length
            · obtain ⟨bA', oA', e', hbA2, hcA2⟩ := (HN.out.below hbw) k hlt2
              injection e' with e'; injection e' with e1 e2; subst e1; subst e2
              by_cases hki : k = i
              · have t4 : ((i : Int) != (k : Int)) = false := by simp; omega
                have HKI := Lib.hid hki
                clear hki
                go_wp2_with fail
                go_roundw
                case rel => exact ⟨k + 1, a, b, by omega, by go_num, rfl, rfl, ha, hb, by rw [topN_skip HKI.out]; exact HAE.out, by rw [topN_skip HKI.out]; exact HBE.out, hbr2⟩
                case measure => simp [intOf]; omega
              · have t4 : ((i : Int) != (k : Int)) = true := by simp; omega
                have HKI := Lib.hid hki
                clear hki
                have hy := HL.out k
                have hs1 := fsub_lt hp1 x (nthN L k)
                have hs2 := fsub_lt hp1 (nthN L i) (nthN L k)
                have m1 := mul_tmod (p := p) (a := a) (b := fsub p x (nthN L k))
                have m2 := mul_tmod (p := p) (a := b) (b := fsub p (nthN L i) (nthN L k))
                have w1 := mul_wrap ha hs1 hp2
                have w2 := mul_wrap hb hs2 hp2
                go_wp2_with fail
                go_quiet ((go_at_call 86; exact Calls.quiet_of_same (refSub_nat p _ _ _ hp1 hp2 (by assumption) (by assumption))))
                go_wp2_with fail
                go_roundw
                case rel => exact ⟨k + 1, fmul p a (fsub p x (nthN L k)), fmul p b (fsub p (nthN L i) (nthN L k)), by omega, by go_num, rfl, rfl, fmul_lt hp1 _ _, fmul_lt hp1 _ _, by rw [topN_go HKI.out, HAE.out], by rw [topN_go HKI.out, HBE.out], below_drewN hbr2 _⟩
                case measure => simp [intOf]; omega
            · obtain rfl : k = L.length := by omega
              have HW := Lib.hid (wN_of HAE.out HBE.out)
              have hil := invV_lt hp1 b
              have m1 := mul_tmod (p := p) (a := a) (b := invV p b)
              have w1 := mul_wrap ha hil hp2
              have hown2 := own_below hown' hbr2
              have hbs := hbw.size
              clear hown'
              go_wp2_with fail
              refine ret_pure (refInverse_any p b _ HP.out hp2 hb) ?_
              go_wp2_with (at_builtin; refine app_one rfl (.tmp 70) (.tmp 76) 22 rfl (base := w.heap.size) Tryd.underlying22 info_int rfl rfl hown2 rfl rfl (by simp only [maxLen]; omega) (by omega) hbs ?_; intro v4 w4 hown4 hg4 hb4)
              have HH := Lib.hid (hbw.trans hb4)
              go_roundw
              case rel =>
                refine ⟨i + 1, T ++ [wN p L i x], by omega, by go_num, by rw [HT.out]; exact (wsN_take HHI.out).symm, ?_, HH.out⟩
                rw [← HW.out]
                simpa [valsN] using hown4
              case measure => simp [intOf]; omega
        · obtain rfl : i = L.length := by omega
          have hE : T = wsN p L x := by rw [HT.out]; exact List.take_of_length_le (by rw [HLN.out]; exact Nat.le_refl _)
          obtain ⟨C, c, rfl, h1, h2, h3⟩ := own_sl hown rfl
          have HE := Lib.hid hE
          clear hE hown
          go_wp2_with fail
          go_ret2
          rw [HR.out, ← HE.out]
          exact ⟨C, c, rfl, h1, h2, h3, hbr⟩
    · have HR := Lib.hid (wsR_no (p := p) (x := x) h0)
      have HC := Lib.hid hpl
      have t4 : (ckE L != 0) = true := by simp; exact h0
      clear h0 hpl hck hz hN hS hL
      go_enter Tryd.func72, Tryd.ntmps72
      go_wp2_with fail
      refine ret_pure HC.out ?_
      go_wp2_with fail
      go_ret2
      rw [HR.out]
      exact ListErr.nil _ (Below.refl _ _)

theorem wgN_step {p : Nat} {W Y : List Nat} {k v : Nat} (h : v = wgN p W Y k) : (v + nthN W k * nthN Y k) % p = wgN p W Y (k + 1) := by rw [mul_ref, h]; rfl
set_option maxRecDepth 100000 in
set_option maxHeartbeats 1000000 in
theorem refInterpolate_any (p : Nat) (A B : Option Addr) (L Y : List Nat) (ca cb x : Nat) (w : World) (hp : PrimeN p) (hp2 : p ≤ 2147483648) (hA : NatsAt w A L) (hS : SlOK A ca L) (hB : NatsAt w B Y) (hL : ∀ y ∈ L, y < p) (hY : ∀ y ∈ Y, y < p)
    (hl : L.length ≤ 1073741824) (hl2 : Y.length ≤ 1073741824) (hx : x < p) :
    Calls Tryd.prog 58 #[.int .i64 p, .slice A L.length ca, .slice B Y.length cb, .int .i64 x] w (RetB (.tuple #[.int .i64 (itV p L Y x : Nat), .int .i64 (itE L Y)]) w) := by
  have hp2' := hp.1
  have hp1 : 1 ≤ p := by omega
  have t2 : ((p : Int) == 0) = false := by simp; omega
  have t3 : ¬ (p : Int) = 0 := by omega
  by_cases hz : L.length = 0
  · have t1 : ((L.length : Int) == 0) = true := by simp [hz]
    have hE : itE L Y = 1 := by
      by_cases h : L.length = Y.length
      · rw [itE_len h, ckE_zero hz]
      · exact itE_no h
    have HV := Lib.hid (itV_no (p := p) (x := x) (show ¬ itE L Y = 0 by rw [hE]; omega))
    have HE := Lib.hid hE
    clear hz hE hA hS hB hL hY
    go_enter Tryd.func58, Tryd.ntmps58
    go_wp2_with fail
    go_ret2
    exact pairB (x := 0) HV.out.symm HE.out.symm (Below.refl _ _)
  · have t1 : ((L.length : Int) == 0) = false := by simp; exact fun e => hz (by rw [e]; rfl)
    by_cases hlen : L.length = Y.length
    · have t4 : ((L.length : Int) != (Y.length : Int)) = false := by simp; omega
      have hws := refWeights_any p A L ca x w hp hp2 hA hS hL hl hx
      have hE := itE_len hlen
      have HLY := Lib.hid hlen
      have hle : L.length ≤ Y.length := by omega
      have hle2 : Y.length ≤ L.length := by omega
      have HB := Lib.hid hB
      have HY := Lib.hid (nthN_lt hp1 hY)
      clear hlen hA hS hB hL hY hz
      by_cases h0 : ckE L = 0
      · rw [wsR_ok h0, h0] at hws
        have HW := Lib.hid hws
        have HE0 := Lib.hid (hE.trans h0)
        have HV := Lib.hid (itV_ok (p := p) (x := x) HE0.out)
        have HLN := Lib.hid (wsN_len p L x)
        have HWL := Lib.hid (nthN_lt hp1 (wsN_lt hp1 L x))
        clear hws h0 hE
        go_enter Tryd.func58, Tryd.ntmps58
        go_wp2_with fail
        refine HW.out.mono ?_
        rintro e w1 ⟨C, c, rfl, hC, hS, hCb, hb1⟩
        have HC := Lib.hid hC
        have HB1 := Lib.hid (HB.out.below hb1)
        have HLN' := HLN.out
        generalize wsN p L x = W at *
        have hwl1 : W.length ≤ L.length := by omega
        have hwl2 : L.length ≤ W.length := by omega
        clear HLN' hC hCb HB HW
        go_wp2_with fail
        go_loop [12, 37] (fun v i => ∃ (k v' : Nat), k ≤ Y.length ∧ i = .int .i64 k ∧ v = .int .i64 v' ∧ v' < p ∧ v' = wgN p W Y k) (fun _ i => Y.length - (intOf i).toNat)
        case atStart => exact ⟨0, 0, Nat.zero_le _, rfl, rfl, hp1, rfl⟩
        case round =>
          obtain ⟨k, v, hk, rfl, rfl, hv, hve⟩ := hrel
          have HVE := Lib.hid hve
          clear hve
          by_cases hlt : k < Y.length
          · obtain ⟨bB, oB, rfl, hbB, hcB⟩ := HB1.out k hlt
            obtain ⟨bC, oC, rfl, hbC, hcC⟩ := HC.out k (by omega)
            have h1 := HWL.out k
            have h2 := HY.out k
            have hbd := mulN_bound h1 h2 hp2
            have q1 : (nthN W k : Int) * (nthN Y k : Int) = (nthN W k * nthN Y k : Nat) := by push_cast; rfl
            have w1 : IntKind.i64.wrap ((nthN W k : Int) * (nthN Y k : Int)) = (nthN W k : Int) * (nthN Y k : Int) := IntWalk.i64_in _ (by omega)
            have w2 : IntKind.i64.wrap ((v : Int) + (nthN W k : Int) * (nthN Y k : Int)) = (v : Int) + (nthN W k : Int) * (nthN Y k : Int) := IntWalk.i64_in _ (by omega)
            have r1 : ((v : Int) + (nthN W k : Int) * (nthN Y k : Int)).tmod p = (wgN p W Y (k + 1) : Nat) := by
              rw [q1, ← Int.natCast_add, Int.tmod_eq_emod_of_nonneg (by omega), ← Int.natCast_emod, wgN_step HVE.out]
            have hlw := wgN_lt hp1 W Y (k + 1)
            clear q1 hbd
            go_wp2_with fail
            go_round
            case rel => exact ⟨k + 1, _, by omega, by go_num, rfl, hlw, rfl⟩
            case measure => simp [intOf]; omega
          · obtain rfl : k = Y.length := by omega
            go_wp2_with fail
            go_ret2
            exact pairB (by rw [HV.out, HVE.out, HLY.out]) HE0.out.symm hb1
      · have HV := Lib.hid (itV_no (p := p) (x := x) (show ¬ itE L Y = 0 by rw [hE]; exact h0))
        rw [wsR_no h0] at hws
        have HW := Lib.hid hws
        have HE := Lib.hid hE
        have t5 : (ckE L != 0) = true := by simp; exact h0
        clear hws h0 hE
        go_enter Tryd.func58, Tryd.ntmps58
        go_wp2_with fail
        refine HW.out.mono ?_
        rintro e w1 ⟨C, c, rfl, hC, hS, hCb, hb1⟩
        go_wp2_with fail
        go_ret2
        exact pairB (x := 0) HV.out.symm HE.out.symm hb1
    · have t4 : ((L.length : Int) != (Y.length : Int)) = true := by simp; omega
      have hE := itE_no hlen
      have HV := Lib.hid (itV_no (p := p) (x := x) (show ¬ itE L Y = 0 by rw [hE]; omega))
      have HE := Lib.hid hE
      clear hlen hA hS hB hL hY hE hz
      go_enter Tryd.func58, Tryd.ntmps58
      go_wp2_with fail
      go_ret2
      exact pairB (x := 0) HV.out.symm HE.out.symm (Below.refl _ _)
end Go.Proofs.YtkjpnhhkebbmdaaDoor
