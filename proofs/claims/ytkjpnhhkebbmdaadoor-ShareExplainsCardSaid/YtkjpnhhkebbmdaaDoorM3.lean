/-
  Polynomials: weights of places, by the program.
  Polynomials: weights of places and values between points, by the document.
  Polynomials: the one through points, by the program.
  Dice and lists while a statement runs; appends to rows of the own; elements of dice.
  Fields: the test of Miller and Rabin, which primes are permitted; inverses and powers.
  Fields: which primes are permitted; inverses and powers.
  Which numbers are prime by the document, which lists are of elements.
  Every prime passes the program's test.
  Shares: what lists of shares are in memory; plans; which lists are of elements.
  Shares: which ones stand in a plan, which lists are good.
  Conditions: those that each theorem names.
-/
import Derived.Test.YtkjpnhhkebbmdaaDoorM2
import Derived.Deep.RegionHeld3
import Derived.Maps.AppendAt
import Derived.Conc.MuLone
set_option linter.unusedVariables false
set_option linter.unusedSimpArgs false
namespace Go.Proofs.YtkjpnhhkebbmdaaDoor
open Go.RowKit

theorem elem_one (p : Nat) (w : World) (hp : 1 ≤ p) (hp2 : p ≤ 2147483648) : Calls Tryd.prog 75 #[.int .i64 p, .int .i64 1] w (Ret (.int .i64 (fone p : Nat)) w) := by
  have h := element_nat p 1 w hp hp2
  exact h
theorem topN_skip {p i x : Nat} {xs : List Nat} {k : Nat} (h : k = i) : topN p i x xs (k + 1) = topN p i x xs k := by simp only [topN]; rw [if_pos h]
theorem topN_go {p i x : Nat} {xs : List Nat} {k : Nat} (h : ¬ k = i) : topN p i x xs (k + 1) = fmul p (topN p i x xs k) (fsub p x (nthN xs k)) := by simp only [topN]; rw [if_neg h]
theorem wN_of {p : Nat} {xs : List Nat} {i x a b : Nat} (ha : a = topN p i x xs xs.length) (hb : b = topN p i (nthN xs i) xs xs.length) : fmul p a (invV p b) = wN p xs i x := by rw [ha, hb]; rfl

set_option maxRecDepth 100000 in
set_option maxHeartbeats 1000000 in
theorem weight_any (p : Nat) (A : Option Addr) (L : List Nat) (cap i x : Nat) (w : World) (hp : 2 ≤ p) (hp2 : p ≤ 2147483648) (hN : NatsAt w A L) (hL : ∀ y ∈ L, y < p) (hl : L.length ≤ 1073741824) (hi : i < L.length) (hx : x < p) :
    Calls Tryd.prog 69 #[.int .i64 p, .slice A L.length cap, .int .i64 i, .int .i64 x] w (RetB (.int .i64 (wN p L i x : Nat)) w) := by
  have hp1 : 1 ≤ p := by omega
  have HN := Lib.hid hN
  have HL := Lib.hid (nthN_lt hp1 hL)
  have hxi := nthN_lt hp1 hL i
  have hmx : Tryd.prog.follows .mixedOrders = true := by kernel_rfl
  clear hN hL
  go_enter Tryd.func69, Tryd.ntmps69
  go_wp2_with (go_at_call 75; refine ret_pure (elem_one p _ hp1 hp2) ?_)
  go_loopw [9, 10, 21] (fun a b j wr => ∃ (k a' b' : Nat), k ≤ L.length ∧ j = .int .i64 k ∧ a = .int .i64 a' ∧ b = .int .i64 b' ∧ a' < p ∧ b' < p ∧ a' = topN p i x L k ∧ b' = topN p i (nthN L i) L k ∧ Below w.heap.size w wr) (fun _ _ j _ => L.length - (intOf j).toNat)
  case atStart => exact ⟨0, fone p, fone p, Nat.zero_le _, rfl, rfl, rfl, fone_lt hp1, fone_lt hp1, rfl, rfl, Below.refl _ _⟩
  case round =>
    obtain ⟨k, a, b, hk, rfl, rfl, rfl, ha, hb, hae, hbe, hbr⟩ := hrel
    have HAE := Lib.hid hae
    have HBE := Lib.hid hbe
    clear hae hbe
    by_cases hlt : k < L.length
    · obtain ⟨bA, oA, rfl, hbA, hcA⟩ := (HN.out.below hbr) k hlt
      by_cases hki : k = i
      · have t1 : ((k : Int) != (i : Int)) = false := by simp; omega
        have HKI := Lib.hid hki
        clear hki
        go_wp2_with fail
        go_roundw
        case rel => exact ⟨k + 1, a, b, by omega, by go_num, rfl, rfl, ha, hb, by rw [topN_skip HKI.out]; exact HAE.out, by rw [topN_skip HKI.out]; exact HBE.out, hbr⟩
        case measure => simp [intOf]; omega
      · have t1 : ((k : Int) != (i : Int)) = true := by simp; omega
        have HKI := Lib.hid hki
        clear hki
        obtain ⟨bI, oI, eI, hbI, hcI⟩ := (HN.out.below hbr) i hi
        injection eI with eI; injection eI with e1 e2; subst e1; subst e2
        have hy := HL.out k
        have hs1 := fsub_lt hp1 x (nthN L k)
        have hs2 := fsub_lt hp1 (nthN L i) (nthN L k)
        have i1 : (0 : Int) ≤ (i : Int) := by omega
        have i2 : (i : Int) < (L.length : Int) := by omega
        go_wp2_with fail
        go_quiet ((first
          | (go_at_call 77; exact Calls.quiet_of_same (sub_nat p _ _ _ hp1 hp2 (by assumption) (by assumption)))
          | (go_at_call 71; exact Calls.quiet_of_same (mul_nat p _ _ _ hp1 hp2 (by assumption) (by assumption)))))
        go_wp2_with fail
        go_roundw
        case rel => exact ⟨k + 1, fmul p a (fsub p x (nthN L k)), fmul p b (fsub p (nthN L i) (nthN L k)), by omega, by go_num, rfl, rfl, fmul_lt hp1 _ _, fmul_lt hp1 _ _, by rw [topN_go HKI.out, HAE.out], by rw [topN_go HKI.out, HBE.out], below_drewN hbr _⟩
        case measure => simp [intOf]; omega
    · obtain rfl : k = L.length := by omega
      have HW := Lib.hid (wN_of HAE.out HBE.out)
      have hil := invV_lt hp1 b
      go_wp2_with fail
      refine ret_pure (inverse_any p b _ hp hp2 hb) ?_
      go_wp2_with fail
      refine ret_pure (mul_nat p a (invV p b) _ hp1 hp2 ha hil) ?_
      go_wp2_with fail
      go_ret
      exact RetB.int (by rw [HW.out]) hbr

/-- A new list, and an error. -/
def ListErr (L : List Nat) (er : Int) (w : World) (e : Ending) (w' : World) : Prop :=
  ∃ A c, e = .returned (.tuple #[.slice A L.length c, .int .i64 er]) ∧ NatsAt w' A L ∧ SlOK A c L ∧ (∀ b off, A = some ⟨b, off, none⟩ → w.heap.size ≤ b ∧ b < w'.heap.size) ∧ Below w.heap.size w w'
theorem ListErr.nil (er : Int) {w w' : World} (hb : Below w.heap.size w w') : ListErr [] er w (.returned (.tuple #[.slice none 0 0, .int .i64 er])) w' :=
  ⟨none, 0, rfl, NatsAt.nil _ _, SlOK.none0, fun b off e => (by cases e), hb⟩
def wsR (p : Nat) (xs : List Nat) (x : Nat) : List Nat := if ckE xs = 0 then wsN p xs x else []
theorem wsR_ok {p : Nat} {xs : List Nat} {x : Nat} (h : ckE xs = 0) : wsR p xs x = wsN p xs x := if_pos h
theorem wsR_no {p : Nat} {xs : List Nat} {x : Nat} (h : ¬ ckE xs = 0) : wsR p xs x = [] := if_neg h
theorem ckE_ok {xs : List Nat} (h0 : ¬ xs.length = 0) (hn : xs.Nodup) : ckE xs = 0 := by rw [ckE_pos h0, plE_yes hn]
theorem ckE_back {xs : List Nat} (h : ckE xs = 0) : 0 < xs.length ∧ xs.Nodup := by
  unfold ckE plE at h
  split at h
  · omega
  · split at h
    · exact ⟨by omega, by assumption⟩
    · omega
set_option maxRecDepth 100000 in
set_option maxHeartbeats 1000000 in
theorem weights_any (p : Nat) (A : Option Addr) (L : List Nat) (cap x : Nat) (w : World) (hp : 2 ≤ p) (hp2 : p ≤ 2147483648) (hN : NatsAt w A L) (hL : ∀ y ∈ L, y < p) (hl : L.length ≤ 1073741824) (hx : x < p) :
    Calls Tryd.prog 51 #[.int .i64 p, .slice A L.length cap, .int .i64 x] w (ListErr (wsR p L x) (ckE L) w) := by
  have hck := check_any A L cap w hN hl (fun x hx => by have := hL x hx; omega)
  by_cases h0 : ckE L = 0
  · have HR := Lib.hid (wsR_ok (p := p) (x := x) h0)
    rw [h0] at hck ⊢
    have HC := Lib.hid hck
    have HN := Lib.hid hN
    have HL := Lib.hid hL
    have HLN := Lib.hid (wsN_len p L x)
    have HWN := Lib.hid (fun i (h : i < L.length) => wsN_nth p L x h)
    clear h0 hck hN hL
    go_enter Tryd.func51, Tryd.ntmps51
    go_wp2_with fail
    refine ret_below HC.out ?_
    intro w1 hb1
    go_wp2_with (at_make; refine make_nats rfl _ _ rfl L.length rfl rfl rfl (by omega) ?_; intro w2 hB2 hb2)
    have hb12 := below_trans hb1 hb2
    have hz1 := hb1.size
    go_loopw [21] (fun i wr => ∃ (k : Nat) (cs : List Nat), k ≤ L.length ∧ i = .int .i64 k ∧ NatBlk wr w1.heap.size cs ∧ cs.length = L.length ∧ (∀ j, j < k → nthN cs j = nthN (wsN p L x) j) ∧ Below w.heap.size w wr) (fun i _ => L.length - (intOf i).toNat)
    case atStart => exact ⟨0, _, by omega, rfl, hB2, by simp, fun j hj => absurd hj (by omega), hb12⟩
    case round =>
      obtain ⟨k, cs, hk, rfl, hBk, hcl, hcs, hbr⟩ := hrel
      have HCL := Lib.hid hcl
      have HCS := Lib.hid hcs
      clear hcl hcs
      by_cases hkn : k < L.length
      · go_wp2_with fail
        refine ret_below (weight_any p A L cap k x wr hp hp2 (HN.out.below hbr) HL.out hl hkn hx) ?_
        intro w3 hb3
        have hB3 := hBk.below hb3
        have hcc := hB3.cell k (by rw [HCL.out]; exact hkn)
        have hff := hB3.frozen k
        have HS := Lib.hid (hB3.set_ k (wN p L k x))
        have HBR := Lib.hid ((below_trans hbr hb3).setCell (p := ⟨w1.heap.size, k, none⟩) hz1 (.int .i64 ((wN p L k x : Nat) : Int)))
        clear hb3 hB3
        go_wp2_with fail
        go_roundw
        case rel =>
          refine ⟨k + 1, cs.set k (wN p L k x), by omega, by go_num, HS.out, by rw [List.length_set]; exact HCL.out, fun j hj => ?_, HBR.out⟩
          by_cases hjk : k = j
          · subst hjk; rw [nthN_set_same _ _ _ (by rw [HCL.out]; exact hkn), HWN.out k hkn]
          · rw [nthN_set_other _ _ _ _ hjk]; exact HCS.out j (by omega)
        case measure => simp [intOf]; omega
      · have HE : Hid (cs = wsN p L x) := extN (by rw [HCL.out, HLN.out]) (fun j hj => HCS.out j (by rw [HCL.out] at hj; omega))
        go_wp2_with fail
        go_ret2
        rw [HR.out]
        refine ⟨some ⟨w1.heap.size, 0, none⟩, L.length, by rw [HLN.out]; rfl, by rw [← HE.out]; exact hBk.nats, ?_, fun b off e => ?_, hbr⟩
        · have := SlOK.own hBk (by rw [HCL.out]; unfold maxLen; omega)
          rw [HCL.out, HE.out] at this; exact this
        · injection e with e; injection e with e1; subst e1; exact ⟨hz1, hBk.lt⟩
  · have HR := Lib.hid (wsR_no (p := p) (x := x) h0)
    have HC := Lib.hid hck
    have t1 : (ckE L != 0) = true := by simp; exact h0
    clear h0 hck hN hL
    go_enter Tryd.func51, Tryd.ntmps51
    go_wp2_with fail
    refine ret_below HC.out ?_
    intro w1 hb1
    go_wp2_with fail
    go_ret2
    rw [HR.out]
    exact ListErr.nil _ hb1

set_option maxRecDepth 100000 in
set_option maxHeartbeats 1000000 in
theorem weigh_any (p : Nat) (A B : Option Addr) (W Y : List Nat) (ca cb : Nat) (w : World) (hp : 1 ≤ p) (hp2 : p ≤ 2147483648) (hA : NatsAt w A W) (hB : NatsAt w B Y) (hW : ∀ y ∈ W, y < p) (hY : ∀ y ∈ Y, y < p) (hl : W.length ≤ Y.length) (hl2 : Y.length ≤ 1073741824) :
    Calls Tryd.prog 53 #[.int .i64 p, .slice A W.length ca, .slice B Y.length cb] w (Ret (.int .i64 (wgN p W Y W.length : Nat)) w) := by
  have HA := Lib.hid hA
  have HB := Lib.hid hB
  have HW := Lib.hid (nthN_lt hp hW)
  have HY := Lib.hid (nthN_lt hp hY)
  clear hA hB hW hY
  go_enter Tryd.func53, Tryd.ntmps53
  go_wp2_with fail
  go_loop [7, 12] (fun v i => ∃ (k v' : Nat), k ≤ W.length ∧ i = .int .i64 k ∧ v = .int .i64 v' ∧ v' < p ∧ v' = wgN p W Y k) (fun _ i => W.length - (intOf i).toNat)
  case atStart => exact ⟨0, 0, Nat.zero_le _, rfl, rfl, hp, rfl⟩
  case round =>
    obtain ⟨k, v, hk, rfl, rfl, hv, hve⟩ := hrel
    have HV := Lib.hid hve
    clear hve
    by_cases hlt : k < W.length
    · obtain ⟨bA, oA, rfl, hbA, hcA⟩ := HA.out k hlt
      obtain ⟨bB, oB, rfl, hbB, hcB⟩ := HB.out k (by omega)
      have h1 := HW.out k
      have h2 := HY.out k
      have h3 := fmul_lt hp (nthN W k) (nthN Y k)
      go_wp2_with fail
      refine ret_pure (mul_nat p (nthN W k) (nthN Y k) _ hp hp2 h1 h2) ?_
      go_wp2_with fail
      refine ret_pure (add_nat p v (fmul p (nthN W k) (nthN Y k)) _ hp hp2 hv h3) ?_
      go_wp2_with fail
      go_round
      case rel => exact ⟨k + 1, _, by omega, by go_num, rfl, fadd_lt hp _ _, by rw [HV.out]; rfl⟩
      case measure => simp [intOf]; omega
    · obtain rfl : k = W.length := by omega
      go_wp2_with fail
      go_ret
      exact Ret.int (by rw [HV.out])

/-- A number, and an error. -/
def itE (xs ys : List Nat) : Int := if xs.length = ys.length then ckE xs else 1
def itV (p : Nat) (xs ys : List Nat) (x : Nat) : Nat := if itE xs ys = 0 then wgN p (wsN p xs x) ys xs.length else 0
theorem itE_len {xs ys : List Nat} (h : xs.length = ys.length) : itE xs ys = ckE xs := if_pos h
theorem itE_no {xs ys : List Nat} (h : ¬ xs.length = ys.length) : itE xs ys = 1 := if_neg h
theorem itV_ok {p : Nat} {xs ys : List Nat} {x : Nat} (h : itE xs ys = 0) : itV p xs ys x = wgN p (wsN p xs x) ys xs.length := if_pos h
theorem itV_no {p : Nat} {xs ys : List Nat} {x : Nat} (h : ¬ itE xs ys = 0) : itV p xs ys x = 0 := if_neg h
theorem pairB {w w' : World} {x y : Nat} {a b : Int} (h1 : x = y) (h2 : a = b) (hb : Below w.heap.size w w') : RetB (.tuple #[.int .i64 (y : Int), .int .i64 b]) w (.returned (.tuple #[.int .i64 (x : Int), .int .i64 a])) w' := by
  subst h1; subst h2; exact ⟨rfl, hb⟩
end Go.Proofs.YtkjpnhhkebbmdaaDoor
namespace Go.Proofs.YtkjpnhhkebbmdaaDoor
open Go.RowKit

theorem one_tmod (p : Nat) (hp : 1 ≤ p) : (1 : Int).tmod (p : Int) = (fone p : Nat) := by
  rw [Int.tmod_eq_emod_of_nonneg (by omega)]; rfl
theorem mul_tmod {p a b : Nat} : ((a : Int) * (b : Int)).tmod (p : Int) = (fmul p a b : Nat) := by
  rw [← Int.natCast_mul, Int.tmod_eq_emod_of_nonneg (by omega)]; rfl
theorem mul_wrap {p a b : Nat} (ha : a < p) (hb : b < p) (hp2 : p ≤ 2147483648) : IntKind.i64.wrap ((a : Int) * (b : Int)) = (a : Int) * (b : Int) := by
  have h := mulN_bound ha hb hp2
  have q1 : (a : Int) * (b : Int) = (a * b : Nat) := by push_cast; rfl
  exact IntWalk.i64_in _ (by omega)
theorem wsN_take {p : Nat} {L : List Nat} {x k : Nat} (h : k < L.length) : (wsN p L x).take (k + 1) = (wsN p L x).take k ++ [wN p L k x] := by
  have hk : k < (wsN p L x).length := by rw [wsN_len]; exact h
  rw [List.take_succ_eq_append_getElem hk, ← nthN_eq hk, wsN_nth p L x h]

set_option maxRecDepth 100000 in
set_option maxHeartbeats 2000000 in
theorem refWeights_any (p : Nat) (A : Option Addr) (L : List Nat) (cap x : Nat) (w : World) (hp : PrimeN p) (hp2 : p ≤ 2147483648) (hN : NatsAt w A L) (hS : SlOK A cap L) (hL : ∀ y ∈ L, y < p) (hl : L.length ≤ 1073741824) (hx : x < p) :
    Calls Tryd.prog 72 #[.int .i64 p, .slice A L.length cap, .int .i64 x] w (ListErr (wsR p L x) (ckE L) w) := by
  have hp2' := hp.1
  have hp1 : 1 ≤ p := by omega
  have t2 : ((p : Int) == 0) = false := by simp; omega
  have t3 : ¬ (p : Int) = 0 := by omega
  have hmx : Tryd.prog.follows .mixedOrders = true := by kernel_rfl
  have hpl := places_any A L cap w hN hS
  by_cases hz : L.length = 0
  · have t1 : ((L.length : Int) == 0) = true := by simp [hz]
    have hc : ckE L = 1 := ckE_zero hz
    have HR := Lib.hid (wsR_no (p := p) (x := x) (show ¬ ckE L = 0 by rw [hc]; omega))
    have HC := Lib.hid hc
    clear hz hc hpl hN hS hL
    go_enter Tryd.func72, Tryd.ntmps72
    go_wp2_with fail
    go_ret2
    rw [HR.out, HC.out]
    exact ListErr.nil _ (Below.refl _ _)
  · have t1 : ((L.length : Int) == 0) = false := by simp; exact fun e => hz (by rw [e]; rfl)
    have hck := ckE_pos hz
    rw [← hck] at hpl
    by_cases h0 : ckE L = 0
    · have HR := Lib.hid (wsR_ok (p := p) (x := x) h0)
      rw [h0] at hpl ⊢
      have HC := Lib.hid hpl
      have HN := Lib.hid hN
      have HL := Lib.hid (nthN_lt hp1 hL)
      have HLN := Lib.hid (wsN_len p L x)
      have HP := Lib.hid hp
      have ho1 := one_tmod p hp1
      have ho2 : (1 : Int) % (p : Int) = (fone p : Nat) := rfl
      have hof := fone_lt hp1
      clear h0 hpl hck hz hN hS hL hp
      go_enter Tryd.func72, Tryd.ntmps72
      go_wp2_with fail
      refine ret_pure HC.out ?_
      go_wp2_with fail
      go_loopw [9, 28] (fun l i wr => ∃ (k : Nat) (T : List Nat), k ≤ L.length ∧ i = .int .i64 k ∧ T = (wsN p L x).take k ∧ wr.ownsRow w.heap.size 3 1 l T.length (valsN T) ∧ Below w.heap.size w wr) (fun _ i _ => L.length - (intOf i).toNat)
      case atStart => exact ⟨0, [], by omega, rfl, rfl, World.ownsRow_nil _ _ _ _, Below.refl _ _⟩
      case round =>
        obtain ⟨i, T, hi, rfl, hT, hown, hbr⟩ := hrel
        have hTl : T.length ≤ i := by rw [hT]; exact List.length_take_le _ _
        have HT := Lib.hid hT
        clear hT
        by_cases hlt : i < L.length
        · obtain ⟨bA, oA, rfl, hbA, hcA⟩ := (HN.out.below hbr) i hlt
          have hxi := HL.out i
          have HHI := Lib.hid hlt
          go_wp2_with fail
          go_quiet (fail)
          go_wp2_with fail
          have hbr' := below_drewN hbr nq
          have hown' := own_below hown (below_drewN (Below.refl _ wr) nq)
          generalize wr.drewN nq = wo at *
          clear hown hbr hcA
          rename_i _ _
          go_loopw [12, 13, 39] (fun a b j wr => ∃ (k a' b' : Nat), k ≤ L.length ∧ j = .int .i64 k ∧ a = .int .i64 a' ∧ b = .int .i64 b' ∧ a' < p ∧ b' < p ∧ a' = topN p i x L k ∧ b' = topN p i (nthN L i) L k ∧ Below wo.heap.size wo wr) (fun _ _ j _ => L.length - (intOf j).toNat)
          case atStart => exact ⟨0, fone p, fone p, Nat.zero_le _, rfl, rfl, rfl, fone_lt hp1, fone_lt hp1, rfl, rfl, Below.refl _ _⟩
          case round =>
            obtain ⟨k, a, b, hk, rfl, rfl, rfl, ha, hb, hae, hbe, hbr2⟩ := hrel
            have HAE := Lib.hid hae
            have HBE := Lib.hid hbe
            clear hae hbe
            have hbw := below_trans hbr' hbr2
            by_cases hlt2 : k < L.length
            · obtain ⟨bA', oA', e', hbA2, hcA2⟩ := (HN.out.below hbw) k hlt2
              injection e' with e'; injection e' with e1 e2; subst e1; subst e2
              by_cases hki : k = i
              · have t4 : ((i : Int) != (k : Int)) = false := by simp; omega
                have HKI := Lib.hid hki
                clear hki
                go_wp2_with fail
                go_roundw
                case rel => exact ⟨k + 1, a, b, by omega, by go_num, rfl, rfl, ha, hb, by rw [topN_skip HKI.out]; exact HAE.out, by rw [topN_skip HKI.out]; exact HBE.out, hbr2⟩
                case measure => simp [intOf]; omega
              · have t4 : ((i : Int) != (k : Int)) = true := by simp; omega
                have HKI := Lib.hid hki
                clear hki
                have hy := HL.out k
                have hs1 := fsub_lt hp1 x (nthN L k)
                have hs2 := fsub_lt hp1 (nthN L i) (nthN L k)
                have m1 := mul_tmod (p := p) (a := a) (b := fsub p x (nthN L k))
                have m2 := mul_tmod (p := p) (a := b) (b := fsub p (nthN L i) (nthN L k))
                have w1 := mul_wrap ha hs1 hp2
                have w2 := mul_wrap hb hs2 hp2
                go_wp2_with fail
                go_quiet ((go_at_call 86; exact Calls.quiet_of_same (refSub_nat p _ _ _ hp1 hp2 (by assumption) (by assumption))))
                go_wp2_with fail
                go_roundw
                case rel => exact ⟨k + 1, fmul p a (fsub p x (nthN L k)), fmul p b (fsub p (nthN L i) (nthN L k)), by omega, by go_num, rfl, rfl, fmul_lt hp1 _ _, fmul_lt hp1 _ _, by rw [topN_go HKI.out, HAE.out], by rw [topN_go HKI.out, HBE.out], below_drewN hbr2 _⟩
                case measure => simp [intOf]; omega
            · obtain rfl : k = L.length := by omega
              have HW := Lib.hid (wN_of HAE.out HBE.out)
              have hil := invV_lt hp1 b
              have m1 := mul_tmod (p := p) (a := a) (b := invV p b)
              have w1 := mul_wrap ha hil hp2
              have hown2 := own_below hown' hbr2
              have hbs := hbw.size
              clear hown'
              go_wp2_with fail
              refine ret_pure (refInverse_any p b _ HP.out hp2 hb) ?_
              go_wp2_with (at_builtin; refine app_one rfl (.tmp 70) (.tmp 76) 22 rfl (base := w.heap.size) Tryd.underlying22 info_int rfl rfl hown2 rfl rfl (by simp only [maxLen]; omega) (by omega) hbs ?_; intro v4 w4 hown4 hg4 hb4)
              have HH := Lib.hid (hbw.trans hb4)
              go_roundw
              case rel =>
                refine ⟨i + 1, T ++ [wN p L i x], by omega, by go_num, by rw [HT.out]; exact (wsN_take HHI.out).symm, ?_, HH.out⟩
                rw [← HW.out]
                simpa [valsN] using hown4
              case measure => simp [intOf]; omega
        · obtain rfl : i = L.length := by omega
          have hE : T = wsN p L x := by rw [HT.out]; exact List.take_of_length_le (by rw [HLN.out]; exact Nat.le_refl _)
          obtain ⟨C, c, rfl, h1, h2, h3⟩ := own_sl hown rfl
          have HE := Lib.hid hE
          clear hE hown
          go_wp2_with fail
          go_ret2
          rw [HR.out, ← HE.out]
          exact ⟨C, c, rfl, h1, h2, h3, hbr⟩
    · have HR := Lib.hid (wsR_no (p := p) (x := x) h0)
      have HC := Lib.hid hpl
      have t4 : (ckE L != 0) = true := by simp; exact h0
      clear h0 hpl hck hz hN hS hL
      go_enter Tryd.func72, Tryd.ntmps72
      go_wp2_with fail
      refine ret_pure HC.out ?_
      go_wp2_with fail
      go_ret2
      rw [HR.out]
      exact ListErr.nil _ (Below.refl _ _)

theorem wgN_step {p : Nat} {W Y : List Nat} {k v : Nat} (h : v = wgN p W Y k) : (v + nthN W k * nthN Y k) % p = wgN p W Y (k + 1) := by rw [mul_ref, h]; rfl
set_option maxRecDepth 100000 in
set_option maxHeartbeats 1000000 in
theorem refInterpolate_any (p : Nat) (A B : Option Addr) (L Y : List Nat) (ca cb x : Nat) (w : World) (hp : PrimeN p) (hp2 : p ≤ 2147483648) (hA : NatsAt w A L) (hS : SlOK A ca L) (hB : NatsAt w B Y) (hL : ∀ y ∈ L, y < p) (hY : ∀ y ∈ Y, y < p)
    (hl : L.length ≤ 1073741824) (hl2 : Y.length ≤ 1073741824) (hx : x < p) :
    Calls Tryd.prog 58 #[.int .i64 p, .slice A L.length ca, .slice B Y.length cb, .int .i64 x] w (RetB (.tuple #[.int .i64 (itV p L Y x : Nat), .int .i64 (itE L Y)]) w) := by
  have hp2' := hp.1
  have hp1 : 1 ≤ p := by omega
  have t2 : ((p : Int) == 0) = false := by simp; omega
  have t3 : ¬ (p : Int) = 0 := by omega
  by_cases hz : L.length = 0
  · have t1 : ((L.length : Int) == 0) = true := by simp [hz]
    have hE : itE L Y = 1 := by
      by_cases h : L.length = Y.length
      · rw [itE_len h, ckE_zero hz]
      · exact itE_no h
    have HV := Lib.hid (itV_no (p := p) (x := x) (show ¬ itE L Y = 0 by rw [hE]; omega))
    have HE := Lib.hid hE
    clear hz hE hA hS hB hL hY
    go_enter Tryd.func58, Tryd.ntmps58
    go_wp2_with fail
    go_ret2
    exact pairB (x := 0) HV.out.symm HE.out.symm (Below.refl _ _)
  · have t1 : ((L.length : Int) == 0) = false := by simp; exact fun e => hz (by rw [e]; rfl)
    by_cases hlen : L.length = Y.length
    · have t4 : ((L.length : Int) != (Y.length : Int)) = false := by simp; omega
      have hws := refWeights_any p A L ca x w hp hp2 hA hS hL hl hx
      have hE := itE_len hlen
      have HLY := Lib.hid hlen
      have hle : L.length ≤ Y.length := by omega
      have hle2 : Y.length ≤ L.length := by omega
      have HB := Lib.hid hB
      have HY := Lib.hid (nthN_lt hp1 hY)
      clear hlen hA hS hB hL hY hz
      by_cases h0 : ckE L = 0
      · rw [wsR_ok h0, h0] at hws
        have HW := Lib.hid hws
        have HE0 := Lib.hid (hE.trans h0)
        have HV := Lib.hid (itV_ok (p := p) (x := x) HE0.out)
        have HLN := Lib.hid (wsN_len p L x)
        have HWL := Lib.hid (nthN_lt hp1 (wsN_lt hp1 L x))
        clear hws h0 hE
        go_enter Tryd.func58, Tryd.ntmps58
        go_wp2_with fail
        refine HW.out.mono ?_
        rintro e w1 ⟨C, c, rfl, hC, hS, hCb, hb1⟩
        have HC := Lib.hid hC
        have HB1 := Lib.hid (HB.out.below hb1)
        have HLN' := HLN.out
        generalize wsN p L x = W at *
        have hwl1 : W.length ≤ L.length := by omega
        have hwl2 : L.length ≤ W.length := by omega
        clear HLN' hC hCb HB HW
        go_wp2_with fail
        go_loop [12, 37] (fun v i => ∃ (k v' : Nat), k ≤ Y.length ∧ i = .int .i64 k ∧ v = .int .i64 v' ∧ v' < p ∧ v' = wgN p W Y k) (fun _ i => Y.length - (intOf i).toNat)
        case atStart => exact ⟨0, 0, Nat.zero_le _, rfl, rfl, hp1, rfl⟩
        case round =>
          obtain ⟨k, v, hk, rfl, rfl, hv, hve⟩ := hrel
          have HVE := Lib.hid hve
          clear hve
          by_cases hlt : k < Y.length
          · obtain ⟨bB, oB, rfl, hbB, hcB⟩ := HB1.out k hlt
            obtain ⟨bC, oC, rfl, hbC, hcC⟩ := HC.out k (by omega)
            have h1 := HWL.out k
            have h2 := HY.out k
            have hbd := mulN_bound h1 h2 hp2
            have q1 : (nthN W k : Int) * (nthN Y k : Int) = (nthN W k * nthN Y k : Nat) := by push_cast; rfl
            have w1 : IntKind.i64.wrap ((nthN W k : Int) * (nthN Y k : Int)) = (nthN W k : Int) * (nthN Y k : Int) := IntWalk.i64_in _ (by omega)
            have w2 : IntKind.i64.wrap ((v : Int) + (nthN W k : Int) * (nthN Y k : Int)) = (v : Int) + (nthN W k : Int) * (nthN Y k : Int) := IntWalk.i64_in _ (by omega)
            have r1 : ((v : Int) + (nthN W k : Int) * (nthN Y k : Int)).tmod p = (wgN p W Y (k + 1) : Nat) := by
              rw [q1, ← Int.natCast_add, Int.tmod_eq_emod_of_nonneg (by omega), ← Int.natCast_emod, wgN_step HVE.out]
            have hlw := wgN_lt hp1 W Y (k + 1)
            clear q1 hbd
            go_wp2_with fail
            go_round
            case rel => exact ⟨k + 1, _, by omega, by go_num, rfl, hlw, rfl⟩
            case measure => simp [intOf]; omega
          · obtain rfl : k = Y.length := by omega
            go_wp2_with fail
            go_ret2
            exact pairB (by rw [HV.out, HVE.out, HLY.out]) HE0.out.symm hb1
      · have HV := Lib.hid (itV_no (p := p) (x := x) (show ¬ itE L Y = 0 by rw [hE]; exact h0))
        rw [wsR_no h0] at hws
        have HW := Lib.hid hws
        have HE := Lib.hid hE
        have t5 : (ckE L != 0) = true := by simp; exact h0
        clear hws h0 hE
        go_enter Tryd.func58, Tryd.ntmps58
        go_wp2_with fail
        refine HW.out.mono ?_
        rintro e w1 ⟨C, c, rfl, hC, hS, hCb, hb1⟩
        go_wp2_with fail
        go_ret2
        exact pairB (x := 0) HV.out.symm HE.out.symm hb1
    · have t4 : ((L.length : Int) != (Y.length : Int)) = true := by simp; omega
      have hE := itE_no hlen
      have HV := Lib.hid (itV_no (p := p) (x := x) (show ¬ itE L Y = 0 by rw [hE]; omega))
      have HE := Lib.hid hE
      clear hlen hA hS hB hL hY hE hz
      go_enter Tryd.func58, Tryd.ntmps58
      go_wp2_with fail
      go_ret2
      exact pairB (x := 0) HV.out.symm HE.out.symm (Below.refl _ _)
end Go.Proofs.YtkjpnhhkebbmdaaDoor
namespace Go.Proofs.YtkjpnhhkebbmdaaDoor
open Go.RowKit

theorem below_undrew {B n : Nat} {w w' : World} (h : Below B (w.drewN n) w') : Below B w w' := ⟨h.os, h.tape, h.output, h.size, h.block⟩
theorem below_undrew1 {B : Nat} {w w' : World} (h : Below B w.drew w') : Below B w w' := ⟨h.os, h.tape, h.output, h.size, h.block⟩
theorem sub_zero_nat (p x : Nat) (w : World) (hp : 1 ≤ p) (hp2 : p ≤ 2147483648) (hx : x < p) : Calls Tryd.prog 77 #[.int .i64 p, .int .i64 0, .int .i64 x] w (Ret (.int .i64 (fsub p 0 x : Nat)) w) :=
  sub_nat p 0 x w hp hp2 (by omega) hx
theorem lit1_nats (w : World) (a : Nat) : NatBlk (w.alloc (.cells #[.int .i64 (a : Int)] 3)) w.heap.size [a] := heap_alloc_new w _
theorem lit2_nats (w : World) (a b : Nat) : NatBlk (w.alloc (.cells #[.int .i64 (a : Int), .int .i64 (b : Int)] 3)) w.heap.size [a, b] := heap_alloc_new w _
def thR (p : Nat) (xs ys : List Nat) : List Nat := if itE xs ys = 0 then thN p xs ys else []
theorem thR_ok {p : Nat} {xs ys : List Nat} (h : itE xs ys = 0) : thR p xs ys = thN p xs ys := if_pos h
theorem thR_no {p : Nat} {xs ys : List Nat} (h : ¬ itE xs ys = 0) : thR p xs ys = [] := if_neg h
theorem nw_zero (p : Nat) (xs ys : List Nat) : (nwN p xs ys 0).1 = [] ∧ (nwN p xs ys 0).2 = [fone p] := ⟨rfl, rfl⟩
theorem nw_succ {p : Nat} {xs ys : List Nat} {n : Nat} {S Z : List Nat} (h1 : S = (nwN p xs ys n).1) (h2 : Z = (nwN p xs ys n).2) :
    linN p S Z (fmul p (fsub p (nthN ys n) (evN p S (nthN xs n))) (invV p (evN p Z (nthN xs n)))) = (nwN p xs ys (n + 1)).1 ∧ mulN p Z [fsub p 0 (nthN xs n), fone p] = (nwN p xs ys (n + 1)).2 := by
  rw [h1, h2]; exact ⟨rfl, rfl⟩
theorem pair_lt {p a b : Nat} (ha : a < p) (hb : b < p) : ∀ c ∈ [a, b], c < p := by
  intro c hc; simp at hc; rcases hc with rfl | rfl <;> assumption

set_option maxRecDepth 100000 in
set_option maxHeartbeats 2000000 in
theorem through_any (p : Nat) (A B : Option Addr) (L Y : List Nat) (ca cb : Nat) (w : World) (hp : 2 ≤ p) (hp2 : p ≤ 2147483648) (hA : NatsAt w A L) (hB : NatsAt w B Y) (hL : ∀ y ∈ L, y < p) (hY : ∀ y ∈ Y, y < p)
    (hl : L.length ≤ 1048576) :
    Calls Tryd.prog 63 #[.int .i64 p, .slice A L.length ca, .slice B Y.length cb] w (ListErr (thR p L Y) (itE L Y) w) := by
  have hp1 : 1 ≤ p := by omega
  have hmx : Tryd.prog.follows .mixedOrders = true := by kernel_rfl
  by_cases hlen : L.length = Y.length
  · have t1 : ((L.length : Int) != (Y.length : Int)) = false := by simp; omega
    have hck := check_any A L ca w hA (by omega) (fun x hx => by have := hL x hx; omega)
    have hE := itE_len hlen
    have hle : L.length ≤ Y.length := by omega
    have hle2 : Y.length ≤ L.length := by omega
    by_cases h0 : ckE L = 0
    · have HR := Lib.hid (thR_ok (p := p) (hE.trans h0))
      rw [hE, h0]
      rw [h0] at hck
      have HC := Lib.hid hck
      have HA := Lib.hid hA
      have HB := Lib.hid hB
      have HL := Lib.hid (nthN_lt hp1 hL)
      have HY := Lib.hid (nthN_lt hp1 hY)
      have hof := fone_lt hp1
      have HNL := Lib.hid (nwN_lt hp1 L Y)
      have HNN := Lib.hid (nwN_len p L Y)
      clear hlen hA hB hL hY hck h0 hE
      go_enter Tryd.func63, Tryd.ntmps63
      go_wp2_with fail
      refine ret_below HC.out ?_
      intro w1 hb1
      go_wp2_with fail
      refine ret_pure (elem_one p _ hp1 hp2) ?_
      go_wp2_with fail
      have hb2 := below_trans hb1 (below_alloc w1 (.cells #[.int .i64 (fone p : Nat)] 3))
      have hZ0 := (lit1_nats w1 (fone p)).nats
      go_loopw [9, 10, 30] (fun o z i wr => ∃ (k : Nat) (S Z : List Nat) (A1 A2 : Option Addr) (c1 c2 : Nat), k ≤ L.length ∧ i = .int .i64 k ∧ o = .slice A1 S.length c1 ∧ z = .slice A2 Z.length c2 ∧
        S = (nwN p L Y k).1 ∧ Z = (nwN p L Y k).2 ∧ NatsAt wr A1 S ∧ SlOK A1 c1 S ∧ NatsAt wr A2 Z ∧ Below w.heap.size w wr) (fun _ _ i _ => L.length - (intOf i).toNat)
      case atStart => exact ⟨0, [], [fone p], none, _, 0, 1, Nat.zero_le _, rfl, rfl, rfl, rfl, rfl, NatsAt.nil _ _, SlOK.none0, hZ0, hb2⟩
      case round =>
        obtain ⟨k, S, Z, A1, A2, c1, c2, hk, rfl, rfl, rfl, hS, hZ, hSN, hSO, hZN, hbr⟩ := hrel
        have hsl : S.length ≤ k := by rw [hS]; exact (HNN.out k).1
        have hzl : Z.length ≤ k + 1 := by rw [hZ]; exact (HNN.out k).2
        have HSp : Hid (∀ c ∈ S, c < p) := by rw [hS]; exact (HNL.out k).1
        have HZp : Hid (∀ c ∈ Z, c < p) := by rw [hZ]; exact (HNL.out k).2
        have HNW := Lib.hid (nw_succ hS hZ)
        have HS := Lib.hid hS
        have HSN := Lib.hid hSN
        have HSO := Lib.hid hSO
        have HZN := Lib.hid hZN
        clear hS hZ hSN hSO hZN hZ0 hb2
        by_cases hlt : k < L.length
        · obtain ⟨bA, oA, rfl, hbA, hcA⟩ := (HA.out.below hbr) k hlt
          have hx := HL.out k
          have hy := HY.out k
          go_wp2_with fail
          refine ret_below (eval_any p (nthN L k) A2 Z c2 wr hp1 hp2 hx HZp.out HZN.out (by omega)) ?_
          intro w3 hb3
          have hbw3 := below_trans hbr hb3
          have hev := evN_lt hp1 Z (nthN L k)
          go_wp2_with fail
          refine ret_pure (inverse_any p (evN p Z (nthN L k)) _ hp hp2 hev) ?_
          have hiv := invV_lt hp1 (evN p Z (nthN L k))
          obtain ⟨bB, oB, rfl, hbB, hcB⟩ := (HB.out.below hbw3) k (by omega)
          have HS3 := Lib.hid (HSN.out.below hb3)
          have HZ3 := Lib.hid (HZN.out.below hb3)
          have hes := evN_lt hp1 S (nthN L k)
          have hfs := fsub_lt hp1 (nthN Y k) (evN p S (nthN L k))
          have hfm := fmul_lt hp1 (fsub p (nthN Y k) (evN p S (nthN L k))) (invV p (evN p Z (nthN L k)))
          have i1 : (0 : Int) ≤ (k : Int) := by omega
          have i2 : (k : Int) < (Y.length : Int) := by omega
          go_wp2_with fail
          go_region_held3 (fun w' => w'.cell? ⟨bB, oB + k, none⟩ = some (.int .i64 (nthN Y k : Nat))) (first | go_keep)
            (first
              | (go_at_call 67; refine (eval_any p (nthN L k) A1 S c1 _ hp1 hp2 hx HSp.out (by exact HS3.out) (by omega)).mono ?_; rintro e w4 ⟨rfl, hb4⟩; have k4 := (hb4.cell (p := ⟨bB, oB + k, none⟩) hbB).trans hcB)
              | (go_at_call 77; refine ret_pure (sub_nat p _ _ _ hp1 hp2 hy hes) ?_)
              | (go_at_call 71; refine ret_pure (mul_nat p _ _ _ hp1 hp2 hfs hiv) ?_)
              | (go_at_call 60; refine (linear_any p A1 A2 S Z c1 c2 _ _ hp1 hp2 (by exact HS3.out.below (below_undrew1 hb4)) (by exact HZ3.out.below (below_undrew1 hb4)) HSp.out HZp.out hfm (by omega) (by omega)).mono ?_; rintro e w5 ⟨g, rfl, hg, hB5, hb5⟩; have k5 := (hb5.cell (p := ⟨bB, oB + k, none⟩) (Nat.lt_of_lt_of_le hbB hb4.size)).trans k4))
          have hb34 : Below w3.heap.size w3 w4 := below_undrew1 hb4
          have hb45 : Below w4.heap.size w4 w5 := hb5
          have hbw5 := below_trans hbw3 (below_trans hb34 hb45)
          have HZ5 := Lib.hid ((HZ3.out.below hb34).below hb45)
          have HB5 := Lib.hid hB5
          have HLN := Lib.hid (linN_len p S Z (fmul p (fsub p (nthN Y k) (evN p S (nthN L k))) (invV p (evN p Z (nthN L k)))))
          clear hB5 hb5 hb4 hb45 hb34 k4 k5 hg hcB hcA HS3 HZ3
          go_wp2_with fail
          refine ret_pure (sub_zero_nat p (nthN L k) _ hp1 hp2 hx) ?_
          go_wp2_with fail
          refine ret_pure (elem_one p _ hp1 hp2) ?_
          go_wp2_with fail
          have hf0 := fsub_lt hp1 0 (nthN L k)
          refine (pmul_any p A2 (some ⟨w5.heap.size, 0, none⟩) Z [fsub p 0 (nthN L k), fone p] c2 2 _ hp1 hp2 (by exact HZ5.out.alloc _) (by exact (lit2_nats w5 _ _).nats) HZp.out (pair_lt hf0 hof) (by omega) (by simp)).mono ?_
          intro e w6 hnl
          obtain ⟨A6, c6, rfl, hN6, hS6, -, hb6⟩ := hnl.open_
          have hb56 : Below w5.heap.size w5 w6 := below_of_alloc (hb6.mono (by simp)) (Nat.le_refl _)
          have HX := Lib.hid (And.intro hN6 (HB5.out.below hb56).nats)
          have HL2 := Lib.hid (below_trans hbw5 hb56)
          clear hnl hN6 hb6 hb56
          go_wp2_with fail
          go_roundw
          case rel =>
            refine ⟨k + 1, _, _, _, A6, _, c6, by omega, by go_num, rfl, rfl, HNW.out.1, HNW.out.2, HX.out.2, SlOK.own HB5.out (by rw [HLN.out]; unfold maxLen; omega), HX.out.1, HL2.out⟩
          case measure => simp [intOf]; omega
        · obtain rfl : k = L.length := by omega
          have hth : shN S = thN p L Y := by rw [HS.out]; rfl
          have HTH := Lib.hid hth
          clear hth
          go_wp2_with fail
          refine (short_any A1 S c1 wr HSN.out HSO.out (by omega)).mono ?_
          intro e w6 hnl
          obtain ⟨A6, c6, rfl, hN6, hS6, hBd, hb6⟩ := hnl.open_
          have HX := Lib.hid (And.intro hN6 (And.intro hS6 (And.intro hBd (below_trans hbr hb6))))
          have hz6 := hbr.size
          clear hnl hN6 hS6 hBd hb6
          go_wp2_with fail
          go_ret2
          rw [HR.out, ← HTH.out]
          exact ⟨A6, c6, rfl, HX.out.1, HX.out.2.1, fun b off e => ⟨Nat.le_trans hz6 (HX.out.2.2.1 b off e).1, (HX.out.2.2.1 b off e).2⟩, HX.out.2.2.2⟩
    · have HR := Lib.hid (thR_no (p := p) (xs := L) (ys := Y) (by rw [hE]; exact h0))
      rw [hE]
      have HC := Lib.hid hck
      have t2 : (ckE L != 0) = true := by simp; exact h0
      clear h0 hck hA hB hL hY hE hlen
      go_enter Tryd.func63, Tryd.ntmps63
      go_wp2_with fail
      refine ret_below HC.out ?_
      intro w1 hb1
      go_wp2_with fail
      go_ret2
      rw [HR.out]
      exact ListErr.nil _ hb1
  · have t1 : ((L.length : Int) != (Y.length : Int)) = true := by simp; omega
    have hE := itE_no hlen
    have HR := Lib.hid (thR_no (p := p) (xs := L) (ys := Y) (by rw [hE]; omega))
    rw [hE]
    clear hA hB hL hY hE hlen
    go_enter Tryd.func63, Tryd.ntmps63
    go_wp2_with fail
    go_ret2
    rw [HR.out]
    exact ListErr.nil _ (Below.refl _ _)
end Go.Proofs.YtkjpnhhkebbmdaaDoor
namespace Go.Proofs.YtkjpnhhkebbmdaaDoor
open Go.RowKit

/-- A list that lies somewhere, not in the dice. -/
structure Held (w : World) (D : Nat) (A : Option Addr) (c : Nat) (L : List Nat) : Prop where
  nats : NatsAt w A L
  ok : SlOK A c L
  off : ∀ b off, A = some ⟨b, off, none⟩ → b ≠ D
theorem Held.mv {w w' : World} {D : Nat} {A : Option Addr} {c : Nat} {L : List Nat} (h : Held w D A c L) (g : w.grownBy w' (some D)) : Held w' D A c L := ⟨h.nats.grown g h.off, h.ok, h.off⟩
theorem Held.below {w w' : World} {D : Nat} {A : Option Addr} {c : Nat} {L : List Nat} (h : Held w D A c L) (hb : Below w.heap.size w w') : Held w' D A c L := h.mv (grown_of_below hb)
/-- The dice, and what was there when the statement began. -/
structure Env (w0 w : World) (D : Nat) (R : List Int) : Prop where
  dice : DiceAt w D R
  low : w0.heap.size ≤ D
  below : Below w0.heap.size w0 w
theorem Env.lt {w0 w : World} {D : Nat} {R : List Int} (h : Env w0 w D R) : D < w.heap.size := h.dice.lt
theorem Env.mv {w0 w w' : World} {D : Nat} {R : List Int} (h : Env w0 w D R) (hb : Below w.heap.size w w') : Env w0 w' D R := ⟨h.dice.below hb, h.low, below_trans h.below hb⟩
theorem Env.next {w0 w w' : World} {D : Nat} {R R' : List Int} (h : Env w0 w D R) (hd : DiceAt w' D R') (g : w.grownBy w' (some D)) : Env w0 w' D R' :=
  ⟨hd, h.low, h.below.trans (grown_below g h.low h.below.size)⟩
theorem held_new {w w' : World} {D : Nat} {A : Option Addr} {c : Nat} {L : List Nat} (hD : D < w.heap.size) (hN : NatsAt w' A L) (hS : SlOK A c L) (hb : ∀ b off, A = some ⟨b, off, none⟩ → w.heap.size ≤ b ∧ b < w'.heap.size) : Held w' D A c L :=
  ⟨hN, hS, fun b off e => by have := hb b off e; omega⟩
def NextN (D : Nat) (n : Int) (R : List Int) (w : World) (e : Ending) (w' : World) : Prop := ∃ m : Nat, e = .returned (.int .i64 (m : Int)) ∧ (m : Int) < n ∧ DiceAt w' D R.tail ∧ w.grownBy w' (some D)
theorem next_nat (D : Nat) (R : List Int) (n : Int) (w : World) (h : DiceAt w D R) (h1 : 1 ≤ n) (hn : n ≤ 4611686018427387904) :
    Calls Tryd.prog 17 #[.pointer (some ⟨D, 0, none⟩), .int .i64 n] w (NextN D n R w) := by
  refine (next_any D R n w h hn).mono ?_
  rintro e w1 ⟨rfl, hD1, hg1⟩
  obtain ⟨x1, x2⟩ := nextV_range R n h1
  exact ⟨(nextV R n).toNat, by rw [Int.toNat_of_nonneg x1], by omega, hD1, hg1⟩
theorem elems_held {D n p : Nat} {w w' : World} {e : Ending} (hD : D < w.heap.size) (h : ElemsP D n p w e w') :
    ∃ A c L R', e = .returned (.slice A L.length c) ∧ L.length = n ∧ (∀ x ∈ L, x < p) ∧ Held w' D A c L ∧ DiceAt w' D R' ∧ w.grownBy w' (some D) := by
  obtain ⟨v, L, R', rfl, hL, hp, hown, hd, hg⟩ := h
  obtain ⟨A, c, rfl, h1, h2, h3⟩ := own_sl hown rfl
  exact ⟨A, c, L, R', rfl, hL, hp, held_new hD h1 h2 h3, hd, hg⟩
/-- A list made before the base of an append stands. -/
theorem NatsAt.app {w0 w w' : World} {A : Option Addr} {L : List Nat} (h0 : NatsAt w0 A L) (h : NatsAt w A L) (hb : Below w0.heap.size w w') : NatsAt w' A L := fun k hk => by
  obtain ⟨b, off, hA, hlt, -⟩ := h0 k hk
  obtain ⟨b', off', hA', hlt', hc⟩ := h k hk
  rw [hA] at hA'; injection hA' with e; injection e with e1 e2; subst e1; subst e2
  exact ⟨b, off, hA, Nat.lt_of_lt_of_le hlt' hb.size, (hb.cell hlt).trans hc⟩
theorem Held.app {w0 w w' : World} {D : Nat} {A : Option Addr} {c : Nat} {L : List Nat} (h0 : NatsAt w0 A L) (h : Held w D A c L) (hb : Below w0.heap.size w w') : Held w' D A c L := ⟨h0.app h.nats hb, h.ok, h.off⟩
theorem Env.app {w0 w w' : World} {D B : Nat} {R : List Int} (h : Env w0 w D R) (hB : D < B) (hb : Below B w w') : Env w0 w' D R :=
  ⟨h.dice.keep fun k hk => hb.block k (by omega), h.low, h.below.trans (hb.mono (by have := h.low; omega))⟩
theorem app_lt {p : Nat} {L M : List Nat} (h : ∀ x ∈ L, x < p) (g : ∀ x ∈ M, x < p) : ∀ x ∈ L ++ M, x < p := fun x hx => (List.mem_append.1 hx).elim (h x) (g x)
theorem own_held {w : World} {base D : Nat} {v : Value} {L : List Nat} (h : w.ownsRow base 3 1 v L.length (valsN L)) (hD : D < base) : ∃ A c, v = .slice A L.length c ∧ Held w D A c L := by
  obtain ⟨A, c, rfl, h1, h2, h3⟩ := own_sl h rfl
  exact ⟨A, c, rfl, h1, h2, fun b off e => by have := h3 b off e; omega⟩
theorem app_nats_at {ops : Array Oper} {rest : List Oper} {o : Oper} {a : Act} {Q : Exit → Act → World → Prop} (hgd : o.guard = none) (s x : Operand)
    (ho : o.op = .call { callee := .builtin .append, args := #[s, x], argTypes := #[22, 22] })
    {base : Nat} {w : World} {v : Value} {S T : List Nat} {ad : Addr} {c : Nat} (hs : a.eval s = v) (hown : w.ownsRow base 3 1 v S.length (valsN S))
    (hx : a.eval x = .slice (some ad) T.length c) (hT : ∀ j u, (valsN T)[j]? = some u → w.cell? (ad.add j) = some u) (hl : S.length + T.length ≤ 4294967296) (hbase : base ≤ w.heap.size)
    (h : ∀ v' w', w'.ownsRow base 3 1 v' (S ++ T).length (valsN (S ++ T)) → w.grownBy w' v.ownBlock → Below base w w' → (v'.ownBlock = v.ownBlock ∨ v'.ownBlock = some w.heap.size) → wpList Tryd.prog ops Q rest (a.put o.dst v') w') :
    wpList Tryd.prog ops Q (o :: rest) a w := by
  obtain ⟨i0, hi, hz0, hz1, hz2⟩ := info_parts info_int
  refine wpList_append_own_at w hgd s x 22 ho base 3 i0 _ 1 8 Tryd.underlying22 hi hz0 hz1 hz2 rfl (by omega) v S.length (valsN S) hs hown _ T.length c (valsN T) hx (by simp [valsN]) hT (valsN_one T) (by unfold maxLen; omega) (by omega) hbase ?_
  intro v' w' h2 h3 _ h5
  refine h v' w' ?_ h3 ((Below.refl _ _).grown h3 hbase (fun k hk => (hown.lt k hk).1)) h5
  rw [List.length_append]; simpa [valsN] using h2
theorem wsR_len (p : Nat) (xs : List Nat) (x : Nat) : (wsR p xs x).length ≤ xs.length := by
  unfold wsR; split
  · rw [wsN_len]; exact Nat.le_refl _
  · exact Nat.zero_le _
theorem thR_len (p : Nat) (xs ys : List Nat) : (thR p xs ys).length ≤ xs.length := by
  unfold thR; split
  · exact thN_len p xs ys
  · exact Nat.zero_le _
theorem sliced_low (A : Option Addr) (h c s : Nat) : sliced A 0 h c s = .slice A h c := by
  unfold sliced
  cases A with
  | none => simp
  | some a => simp [Addr.add]
attribute [local go_sem high] sliced_low
theorem elements_at (D : Nat) (R : List Int) (p n : Nat) (k : Int) (w : World) (hk : k = (n : Int)) (h : DiceAt w D R) (hp : 1 ≤ p) (hp2 : p ≤ 2147483648) (hn : n ≤ 1048576) :
    Calls Tryd.prog 16 #[.pointer (some ⟨D, 0, none⟩), .int .i64 p, .int .i64 k] w (ElemsP D n p w) := by
  subst hk; exact elements_any D R p n w h hp hp2 hn
theorem shN_lt' {p : Nat} {L : List Nat} (h : ∀ x ∈ L, x < p) : ∀ x ∈ shN L, x < p := fun x hx => h x (List.mem_of_mem_take hx)
end Go.Proofs.YtkjpnhhkebbmdaaDoor
namespace Go.Proofs.YtkjpnhhkebbmdaaDoor
open Go.RowKit

/-- The odd part of a number, and how often it is halved. -/
def halve : Nat → Nat → Nat × Nat
  | 0, n => (n, 0)
  | f + 1, n => if n % 2 = 0 then ((halve f (n / 2)).1, (halve f (n / 2)).2 + 1) else (n, 0)
theorem halve_mul : ∀ f n, (halve f n).1 * 2 ^ (halve f n).2 = n
  | 0, n => by simp [halve]
  | f + 1, n => by
    unfold halve
    split
    · rename_i h
      simp only [Nat.pow_succ]
      rw [← Nat.mul_assoc, halve_mul f (n / 2)]; omega
    · simp
theorem halve_odd : ∀ f n, 1 ≤ n → n < 2 ^ f → (halve f n).1 % 2 = 1
  | 0, n, h1, h2 => by simp at h2; omega
  | f + 1, n, h1, h2 => by
    unfold halve
    split
    · rename_i h
      exact halve_odd f (n / 2) (by omega) (by rw [Nat.pow_succ] at h2; omega)
    · omega
def mrD (p : Nat) : Nat := (halve 31 (p - 1)).1
def mrS (p : Nat) : Nat := (halve 31 (p - 1)).2
theorem mr_mul (p : Nat) : mrD p * 2 ^ mrS p = p - 1 := halve_mul 31 (p - 1)
theorem mr_odd (p : Nat) (h : 2 ≤ p) (h2 : p ≤ 2147483648) : mrD p % 2 = 1 := halve_odd 31 (p - 1) (by omega) (by omega)
/-- Some of the numbers x^2, x^4 .. (n of them) is p - 1. -/
def mrGo (p : Nat) : Nat → Nat → Bool
  | 0, _ => false
  | n + 1, x => if fmul p x x = p - 1 then true else mrGo p n (fmul p x x)
def mrX (p b : Nat) : Nat := fpow p (b % p) (mrD p)
def mrPass (p b : Nat) : Bool := if mrX p b = 1 ∨ mrX p b = 0 ∨ mrX p b = p - 1 then true else mrGo p (mrS p - 1) (mrX p b)
def vGo (p : Nat) : List Nat → Bool
  | [] => true
  | b :: l => if p = b then true else if p % b = 0 then false else if mrPass p b then vGo p l else false
def validF (p : Nat) : Bool := if p < 2 ∨ 1073741824 < p ∨ (2 < p ∧ p % 2 = 0) then false else vGo p [2, 3, 5, 7]

theorem mr_first (p b : Nat) (h : mrX p b = 1 ∨ mrX p b = 0 ∨ mrX p b = p - 1) : true = mrPass p b := by unfold mrPass; rw [if_pos h]
theorem mr_later (p b : Nat) (h : ¬ (mrX p b = 1 ∨ mrX p b = 0 ∨ mrX p b = p - 1)) : mrGo p (mrS p - 1) (mrX p b) = mrPass p b := by unfold mrPass; rw [if_neg h]
theorem mrGo_yes (p n x : Nat) (h : fmul p x x = p - 1) : mrGo p (n + 1) x = true := by unfold mrGo; rw [if_pos h]
theorem mrGo_no (p n x : Nat) (h : ¬ fmul p x x = p - 1) : mrGo p (n + 1) x = mrGo p n (fmul p x x) := if_neg h
theorem two_pow_pos (k : Nat) : 1 ≤ 2 ^ k := Nat.one_le_two_pow
theorem halfs {d s k o : Nat} (hd : d % 2 = 1) (h : o * 2 ^ k = d * 2 ^ s) (hk : k ≤ s) : (o % 2 = 0 ↔ k < s) := by
  have h1 : o = d * 2 ^ (s - k) := by
    have h2 : d * 2 ^ s = d * 2 ^ (s - k) * 2 ^ k := by rw [Nat.mul_assoc, ← Nat.pow_add, show s - k + k = s by omega]
    rw [h2] at h
    exact Nat.eq_of_mul_eq_mul_right (two_pow_pos k) h
  constructor
  · intro h0
    rcases Nat.lt_or_ge k s with hlt | hge
    · exact hlt
    · rw [h1, show s - k = 0 by omega] at h0; simp at h0; omega
  · intro hlt
    rw [h1, show s - k = (s - k - 1) + 1 by omega, Nat.pow_succ, ← Nat.mul_assoc, Nat.mul_mod_left]
theorem half_step {o k n : Nat} (h : o * 2 ^ k = n) (h0 : o % 2 = 0) : o / 2 * 2 ^ (k + 1) = n := by
  rw [Nat.pow_succ, ← Nat.mul_assoc, Nat.mul_right_comm, show o / 2 * 2 = o by omega, h]

set_option maxHeartbeats 800000 in
theorem passes_any (p b : Nat) (w : World) (hp : 3 ≤ p) (hp2 : p ≤ 2147483647) (hb : b ≤ 1000) :
    Calls Tryd.prog 64 #[.int .i64 p, .int .i64 b] w (Ret (.bool (mrPass p b)) w) := by
  have HD := Lib.hid (mr_odd p (by omega) (by omega))
  have HM := Lib.hid (mr_mul p)
  have hbp : b % p < p := Nat.mod_lt _ (by omega)
  have hxl : mrX p b < p := fpow_lt (by omega) _ _
  have hs31 : mrS p ≤ 62 := by
    rcases Nat.lt_or_ge 62 (mrS p) with h | h
    · have h1 := Nat.pow_le_pow_right (n := 2) (by omega) (Nat.le_of_lt h)
      have h2 : 1 ≤ mrD p := by have := HD.out; omega
      have h3 := Nat.mul_le_mul h2 h1
      rw [HM.out] at h3; omega
    · exact h
  go_enter Tryd.func64, Tryd.ntmps64
  go_wp2_with fail
  go_loop [5, 6] (fun o t => ∃ o' k : Nat, o = .int .i64 o' ∧ t = .int .i64 k ∧ o' * 2 ^ k = p - 1 ∧ k ≤ mrS p ∧ 1 ≤ o' ∧ o' ≤ p) (fun o _ => (intOf o).toNat)
  case atStart => exact ⟨p - 1, 0, by go_num, rfl, by simp, by omega, by omega, by omega⟩
  case round =>
    obtain ⟨o, k, rfl, rfl, hinv, hk, ho1, ho2⟩ := hrel
    have HI := Lib.hid hinv
    clear hinv
    have HH := Lib.hid (halfs HD.out (HI.out.trans HM.out.symm) hk)
    by_cases h0 : o % 2 = 0
    · have hk' := HH.out.1 h0
      have t1 : ((o : Int) % 2 == 0) = true := by simp; omega
      go_wp2_with fail
      go_round
      case rel => exact ⟨o / 2, k + 1, by go_num, by go_num, half_step HI.out h0, by omega, by omega, by omega⟩
      case measure => simp [intOf]; omega
    · have hk' : k = mrS p := Nat.le_antisymm hk (Nat.not_lt.1 fun h => h0 (HH.out.2 h))
      subst hk'
      have ho : o = mrD p := Nat.eq_of_mul_eq_mul_right (two_pow_pos (mrS p)) (HI.out.trans HM.out.symm)
      subst ho
      have t1 : ((mrD p : Int) % 2 == 0) = false := by simp; omega
      go_wp2_with fail
      refine ret_pure (fpower_any p (b % p) (mrD p) _ (by omega) (by omega) hbp (by omega)) ?_
      rw [show fpow p (b % p) (mrD p) = mrX p b from rfl]
      by_cases hx : mrX p b = 1 ∨ mrX p b = 0 ∨ mrX p b = p - 1
      · have HP := Lib.hid (mr_first p b hx)
        rcases hx with h | h | h
        · have t2 : ((mrX p b : Int) == 1) = true := by simp; omega
          have HX := Lib.hid h
          clear h
          go_wp2_with fail
          go_ret
          exact Ret.bool HP.out
        · have t2 : ((mrX p b : Int) == 1) = false := by simp; omega
          have t3 : ((mrX p b : Int) == 0) = true := by simp; omega
          have HX := Lib.hid h
          clear h
          go_wp2_with fail
          go_ret
          exact Ret.bool HP.out
        · have t4 : ((mrX p b : Int) == (p : Int) - 1) = true := by simp; omega
          by_cases h1 : mrX p b = 1
          · have t2 : ((mrX p b : Int) == 1) = true := by simp; omega
            have HX := Lib.hid h
            have HX1 := Lib.hid h1
            clear h h1
            go_wp2_with fail
            go_ret
            exact Ret.bool HP.out
          · have t2 : ((mrX p b : Int) == 1) = false := by simp; omega
            have t3 : ((mrX p b : Int) == 0) = false := by simp; omega
            have HX := Lib.hid h
            clear h h1
            go_wp2_with fail
            go_ret
            exact Ret.bool HP.out
      · have HP := Lib.hid (mr_later p b hx)
        have t2 : ((mrX p b : Int) == 1) = false := by simp; omega
        have t3 : ((mrX p b : Int) == 0) = false := by simp; omega
        have t4 : ((mrX p b : Int) == (p : Int) - 1) = false := by simp; omega
        clear hx
        go_wp2_with fail
        generalize hX : mrX p b = X at *
        clear t2 t3 t4 hX
        go_loop [7, 38] (fun x i => ∃ x' m : Nat, x = .int .i64 x' ∧ i = .int .i64 m ∧ x' < p ∧ (m ≤ mrS p - 1) ∧ mrGo p (mrS p - 1 - m) x' = mrPass p b) (fun _ i => 70 - (intOf i).toNat)
        case atStart => exact ⟨X, 0, rfl, rfl, hxl, by omega, HP.out⟩
        case round =>
          obtain ⟨x, m, rfl, rfl, hxp, hm, hgo⟩ := hrel
          have HG := Lib.hid hgo
          clear hgo
          by_cases hlt : (m : Int) < (mrS p : Int) - 1
          · go_wp2_with fail
            refine ret_pure (mul_nat p x x _ (by omega) (by omega) hxp hxp) ?_
            have hfl : fmul p x x < p := fmul_lt (by omega) _ _
            by_cases hq : fmul p x x = p - 1
            · have t5 : ((fmul p x x : Int) == (p : Int) - 1) = true := by simp; omega
              have HR := Lib.hid (show true = mrPass p b by
                rw [← HG.out, show mrS p - 1 - m = (mrS p - 1 - m - 1) + 1 by omega, mrGo_yes p _ x hq])
              clear hq
              go_wp2_with fail
              go_ret
              exact Ret.bool HR.out
            · have t5 : ((fmul p x x : Int) == (p : Int) - 1) = false := by simp; omega
              have HR := Lib.hid (show mrGo p (mrS p - 1 - (m + 1)) (fmul p x x) = mrPass p b by
                rw [← HG.out, show mrS p - 1 - m = (mrS p - 1 - (m + 1)) + 1 by omega, mrGo_no p _ x hq])
              clear hq
              go_wp2_with fail
              go_round
              case rel => exact ⟨fmul p x x, m + 1, rfl, by go_num, hfl, by omega, HR.out⟩
              case measure => simp [intOf]; omega
          · go_wp2_with fail
            go_ret
            refine Ret.bool ?_
            rw [← HG.out, show mrS p - 1 - m = 0 by omega]; rfl
end Go.Proofs.YtkjpnhhkebbmdaaDoor
namespace Go.Proofs.YtkjpnhhkebbmdaaDoor
open Go.RowKit

/-- The table of bases holds 2, 3, 5, 7. -/
def Bases (w : World) : Prop :=
  0 < w.heap.size ∧ w.cell? ⟨0, 0, none⟩ = some (.int .i64 2) ∧ w.cell? ⟨0, 1, none⟩ = some (.int .i64 3) ∧ w.cell? ⟨0, 2, none⟩ = some (.int .i64 5) ∧ w.cell? ⟨0, 3, none⟩ = some (.int .i64 7)
theorem Bases.below {w w' : World} {B : Nat} (h : Bases w) (hb : Below B w w') (hB : 0 < B) : Bases w' := by
  obtain ⟨h0, h1, h2, h3, h4⟩ := h
  exact ⟨Nat.lt_of_lt_of_le h0 hb.size, (hb.cell hB).trans h1, (hb.cell hB).trans h2, (hb.cell hB).trans h3, (hb.cell hB).trans h4⟩
theorem Bases.keep {w w' : World} (h : Bases w) (hb : Below w.heap.size w w') : Bases w' := h.below hb h.1

def validI (p : Int) : Bool := if p < 2 then false else validF p.toNat
theorem validI_small {p : Int} (h : p < 2) : false = validI p := by unfold validI; rw [if_pos h]
theorem validI_nat {p : Nat} (h : 2 ≤ p) : validF p = validI (p : Int) := by unfold validI; rw [if_neg (by omega), Int.toNat_natCast]
theorem validI_big {p : Int} (h : 1073741824 < p) : false = validI p := by
  unfold validI; rw [if_neg (by omega)]; unfold validF; rw [if_pos]; omega
theorem validF_even {p : Nat} (h : 2 < p ∧ p % 2 = 0) : false = validF p := by unfold validF; rw [if_pos (.inr (.inr h))]
theorem validF_go {p : Nat} (h : ¬ (p < 2 ∨ 1073741824 < p ∨ (2 < p ∧ p % 2 = 0))) : vGo p [2, 3, 5, 7] = validF p := by unfold validF; rw [if_neg h]
theorem vGo_eq {p b : Nat} {l : List Nat} (h : p = b) : vGo p (b :: l) = true := if_pos h
theorem vGo_div {p b : Nat} {l : List Nat} (h : ¬ p = b) (h2 : p % b = 0) : vGo p (b :: l) = false := by unfold vGo; rw [if_neg h, if_pos h2]
theorem vGo_pass {p b : Nat} {l : List Nat} (h : ¬ p = b) (h2 : ¬ p % b = 0) (h3 : mrPass p b = true) : vGo p (b :: l) = vGo p l := by
  conv => lhs; unfold vGo
  rw [if_neg h, if_neg h2, if_pos h3]
theorem vGo_fail {p b : Nat} {l : List Nat} (h : ¬ p = b) (h2 : ¬ p % b = 0) (h3 : mrPass p b = false) : vGo p (b :: l) = false := by
  unfold vGo; rw [if_neg h, if_neg h2, if_neg (by rw [h3]; simp)]
def basis (k : Nat) : Nat := [2, 3, 5, 7].getD k 0
theorem basis_drop (k : Nat) (h : k < 4) : [2, 3, 5, 7].drop k = basis k :: [2, 3, 5, 7].drop (k + 1) := by
  have : k = 0 ∨ k = 1 ∨ k = 2 ∨ k = 3 := by omega
  rcases this with rfl | rfl | rfl | rfl <;> rfl
theorem basis_bd (k : Nat) (h : k < 4) : 2 ≤ basis k ∧ basis k ≤ 7 := by
  have : k = 0 ∨ k = 1 ∨ k = 2 ∨ k = 3 := by omega
  rcases this with rfl | rfl | rfl | rfl <;> decide
theorem ib0 (w : World) : (Instr.index 93 (.agg #[.int .i64 2, .int .i64 3, .int .i64 5, .int .i64 7]) (.int .i64 0)).run Tryd.prog w = .ok (.int .i64 2) w := by kernel_rfl
theorem ib1 (w : World) : (Instr.index 93 (.agg #[.int .i64 2, .int .i64 3, .int .i64 5, .int .i64 7]) (.int .i64 1)).run Tryd.prog w = .ok (.int .i64 3) w := by kernel_rfl
theorem ib2 (w : World) : (Instr.index 93 (.agg #[.int .i64 2, .int .i64 3, .int .i64 5, .int .i64 7]) (.int .i64 2)).run Tryd.prog w = .ok (.int .i64 5) w := by kernel_rfl
theorem ib3 (w : World) : (Instr.index 93 (.agg #[.int .i64 2, .int .i64 3, .int .i64 5, .int .i64 7]) (.int .i64 3)).run Tryd.prog w = .ok (.int .i64 7) w := by kernel_rfl
theorem index_bases (k : Nat) (h : k < 4) (w : World) : (Instr.index 93 (.agg #[.int .i64 2, .int .i64 3, .int .i64 5, .int .i64 7]) (.int .i64 k)).run Tryd.prog w = .ok (.int .i64 (basis k : Nat)) w := by
  have : k = 0 ∨ k = 1 ∨ k = 2 ∨ k = 3 := by omega
  rcases this with rfl | rfl | rfl | rfl
  · exact ib0 w
  · exact ib1 w
  · exact ib2 w
  · exact ib3 w

set_option maxHeartbeats 800000 in
theorem valid_mid (p : Nat) (w : World) (hB : Bases w) (h2 : 2 ≤ p) (h3 : p ≤ 1073741824) (hodd : ¬ (2 < p ∧ p % 2 = 0)) :
    Calls Tryd.prog 42 #[.int .i64 p] w (Ret (.bool (validI p)) w) := by
  obtain ⟨_, b0, b1, b2, b3⟩ := hB
  have HV := Lib.hid ((validF_go (by omega)).trans (validI_nat h2))
  have d1 : decide ((p : Int) < 2) = false := decide_eq_false (by omega)
  have d2 : decide (1073741824 < (p : Int)) = false := decide_eq_false (by omega)
  have hs : p = 2 ∨ 3 ≤ p ∧ p % 2 = 1 := by omega
  have hS : Hid (p = 2 ∨ 3 ≤ p ∧ p % 2 = 1) := hs
  have t1 : ((p : Int) % 2 == 0) = decide (p = 2) := by
    rcases hs with h | h
    · subst h; rfl
    · rw [decide_eq_false (by omega)]; simp; omega
  have t0 : decide (2 < (p : Int)) = decide (3 ≤ p) := by
    by_cases h : 3 ≤ p
    · rw [decide_eq_true h, decide_eq_true (by omega)]
    · rw [decide_eq_false h, decide_eq_false (by omega)]
  clear hs
  by_cases hp2 : p = 2
  · subst hp2
    go_enter Tryd.func42, Tryd.ntmps42
    go_wp2_with fail
    refine wp_loop_rounds 1 ?_
    rw [rounds_succ]
    have i0 := ib0
    go_wp2_with fail
    go_ret
    exact Ret.bool HV.out
  · have hp3 : 3 ≤ p := by omega
    rw [decide_eq_false hp2] at t1
    clear t0
    go_enter Tryd.func42, Tryd.ntmps42
    go_wp2_with fail
    go_loop [21] (fun i => ∃ k : Nat, k ≤ 4 ∧ i = .int .i64 k ∧ vGo p ([2, 3, 5, 7].drop k) = validI p) (fun i => 4 - (intOf i).toNat)
    case atStart => exact ⟨0, by omega, rfl, HV.out⟩
    case round =>
      obtain ⟨k, hk, rfl, hgo⟩ := hrel
      have HG := Lib.hid hgo
      clear hgo t1 d1 d2
      by_cases hk4 : k < 4
      · have hix := index_bases k hk4
        obtain ⟨bb1, bb2⟩ := basis_bd k hk4
        have HD := Lib.hid (basis_drop k hk4)
        generalize hbas : basis k = b at *
        clear hbas
        by_cases hpb : p = b
        · have t2 : ((p : Int) == (b : Int)) = true := by simp; omega
          have HR := Lib.hid (show true = validI p by rw [← HG.out, HD.out, vGo_eq hpb])
          clear hpb
          go_wp2_with fail
          go_ret
          exact Ret.bool HR.out
        · have t2 : ((p : Int) == (b : Int)) = false := by simp; omega
          by_cases hdiv : p % b = 0
          · have t3 : ((p : Int) % (b : Int) == 0) = true := by rw [← Int.natCast_emod]; simp; omega
            have HR := Lib.hid (show false = validI p by rw [← HG.out, HD.out, vGo_div hpb hdiv])
            clear hpb hdiv
            go_wp2_with fail
            go_ret
            exact Ret.bool HR.out
          · have t3 : ((p : Int) % (b : Int) == 0) = false := by rw [← Int.natCast_emod]; simp; omega
            have HP := Lib.hid (fun w => passes_any p b w hp3 (by omega) (by omega))
            cases hmr : mrPass p b
            · have HR := Lib.hid (show false = validI p by rw [← HG.out, HD.out, vGo_fail hpb hdiv hmr])
              have HM := Lib.hid hmr
              clear hpb hdiv hmr
              go_wp2_with fail
              refine ret_pure (HP.out _) ?_
              rw [HM.out]
              go_wp2_with fail
              go_ret
              exact Ret.bool HR.out
            · have HR := Lib.hid (show vGo p ([2, 3, 5, 7].drop (k + 1)) = validI p by rw [← HG.out, HD.out, vGo_pass hpb hdiv hmr])
              have HM := Lib.hid hmr
              clear hpb hdiv hmr
              go_wp2_with fail
              refine ret_pure (HP.out _) ?_
              rw [HM.out]
              go_wp2_with fail
              go_round
              case rel => exact ⟨k + 1, by omega, by go_num, HR.out⟩
              case measure => simp [intOf]; omega
      · have HR := Lib.hid (show true = validI p by rw [← HG.out, show k = 4 by omega]; rfl)
        go_wp2_with fail
        go_ret
        exact Ret.bool HR.out

set_option maxHeartbeats 400000 in
theorem valid_any (p : Int) (w : World) (hB : Bases w) : Calls Tryd.prog 42 #[.int .i64 p] w (Ret (.bool (validI p)) w) := by
  by_cases h1 : p < 2
  · have HV := Lib.hid (validI_small h1)
    go_enter Tryd.func42, Tryd.ntmps42
    go_wp2
    go_ret
    exact Ret.bool HV.out
  · by_cases h2 : 1073741824 < p
    · have HV := Lib.hid (validI_big h2)
      go_enter Tryd.func42, Tryd.ntmps42
      go_wp2
      go_ret
      exact Ret.bool HV.out
    · obtain ⟨p, rfl⟩ := Int.eq_ofNat_of_zero_le (show 0 ≤ p by omega)
      by_cases h3 : 2 < p ∧ p % 2 = 0
      · have HV := Lib.hid ((validF_even h3).trans (validI_nat (by omega)))
        have t1 : ((p : Int) % 2 == 0) = true := by simp; omega
        have t2 : 2 < (p : Int) := by omega
        clear h3
        go_enter Tryd.func42, Tryd.ntmps42
        go_wp2
        go_ret
        exact Ret.bool HV.out
      · exact valid_mid p w hB (by omega) (by omega) h3
end Go.Proofs.YtkjpnhhkebbmdaaDoor
namespace Go.Proofs.YtkjpnhhkebbmdaaDoor
open Go.RowKit

/-! ### Lists of elements -/
def inside (p : Int) (L : List Int) : Bool := L.all fun n => decide (0 ≤ n) && decide (n < p)
def elemsI (p : Int) (L : List Int) (v : Bool) : Bool := inside p L && v
theorem inside_at {p : Int} {L : List Int} {k : Nat} (hk : k < L.length) (h : nth L k < 0 ∨ p ≤ nth L k) (v : Bool) : false = elemsI p L v := by
  have : inside p L = false := by
    unfold inside
    rw [List.all_eq_false]
    refine ⟨nth L k, by rw [nth_eq hk]; exact List.getElem_mem hk, ?_⟩
    simp; omega
  unfold elemsI; rw [this]; rfl
theorem inside_all {p : Int} {L : List Int} (h : ∀ k, k < L.length → 0 ≤ nth L k ∧ nth L k < p) (v : Bool) : v = elemsI p L v := by
  have : inside p L = true := by
    unfold inside
    rw [List.all_eq_true]
    intro x hx
    obtain ⟨k, hk, rfl⟩ := List.getElem_of_mem hx
    have := h k hk
    rw [nth_eq hk] at this
    simp; exact this
  unfold elemsI; rw [this]; rfl

/-! ### The document's primes -/
noncomputable def primeV (p : Int) : Bool := @decide (p ≤ 1073741824 ∧ PrimeN p.toNat) (Classical.propDecidable _)
theorem primeV_true {p : Nat} (h : p ≤ 1073741824) (hp : PrimeN p) : true = primeV (p : Int) := by
  unfold primeV; exact (@decide_eq_true _ (Classical.propDecidable _) ⟨by omega, by rw [Int.toNat_natCast]; exact hp⟩).symm
theorem primeV_false {p : Int} (h : ¬ (p ≤ 1073741824 ∧ PrimeN p.toNat)) : false = primeV p := by
  unfold primeV; exact (@decide_eq_false _ (Classical.propDecidable _) h).symm
theorem prime_of_small {p k : Nat} (hp : 2 ≤ p) (hk : p < k * k) (h : ∀ e, 2 ≤ e → e < k → ¬ e ∣ p) : PrimeN p := by
  refine ⟨hp, fun d hd => ?_⟩
  rcases Nat.lt_or_ge d 2 with h2 | h2
  · have := Nat.pos_of_dvd_of_pos hd (by omega); omega
  · obtain ⟨m, rfl⟩ := hd
    rcases Nat.lt_or_ge d k with h3 | h3
    · exact absurd (Nat.dvd_mul_right d m) (h d h2 h3)
    · rcases Nat.lt_or_ge m 2 with h4 | h4
      · have : m = 1 := by
          rcases Nat.eq_zero_or_pos m with h5 | h5
          · subst h5; rw [Nat.mul_zero] at hp; omega
          · omega
        subst this; right; omega
      · rcases Nat.lt_or_ge m k with h5 | h5
        · exact absurd (Nat.dvd_mul_left m d) (h m h4 h5)
        · have := Nat.mul_le_mul h3 h5; omega
theorem not_prime_of_dvd {p k : Nat} (hk : 2 ≤ k) (hkk : k * k ≤ p) (hd : k ∣ p) : ¬ PrimeN p := fun h => by
  rcases h.2 k hd with h1 | h1
  · omega
  · have := Nat.mul_le_mul_left k hk; omega

set_option maxHeartbeats 1000000 in
theorem refValid_any (p : Int) (w : World) : Calls Tryd.prog 43 #[.int .i64 p] w (Ret (.bool (primeV p)) w) := by
  by_cases h1 : p < 2
  · have HV := Lib.hid (primeV_false (p := p) (fun h => by have := h.2.1; omega))
    go_enter Tryd.func43, Tryd.ntmps43
    go_wp2
    go_ret
    exact Ret.bool HV.out
  · by_cases h2 : 1073741824 < p
    · have HV := Lib.hid (primeV_false (p := p) (fun h => by have := h.1; omega))
      go_enter Tryd.func43, Tryd.ntmps43
      go_wp2
      go_ret
      exact Ret.bool HV.out
    · obtain ⟨p, rfl⟩ := Int.eq_ofNat_of_zero_le (show 0 ≤ p by omega)
      go_enter Tryd.func43, Tryd.ntmps43
      go_wp2_with fail
      go_loop [3] (fun d => ∃ k : Nat, 2 ≤ k ∧ k ≤ 32769 ∧ d = .int .i64 k ∧ ∀ e, 2 ≤ e → e < k → ¬ e ∣ p) (fun d => 32770 - (intOf d).toNat)
      case atStart => exact ⟨2, by omega, by omega, rfl, fun e h1 h2 => absurd h1 (by omega)⟩
      case round =>
        obtain ⟨k, hk1, hk2, rfl, hpre⟩ := hrel
        have HP := Lib.hid hpre
        clear hpre
        have hb : k * k ≤ 32769 * 32769 := Nat.mul_le_mul hk2 hk2
        have x1 : (k : Int) * k = (k * k : Nat) := by push_cast; rfl
        have w1 : IntKind.i64.wrap ((k : Int) * k) = (k : Int) * k := IntWalk.i64_in _ (by omega)
        have r1 : (p : Int).tmod k = (p : Int) % k := Int.tmod_eq_emod_of_nonneg (by omega)
        have z1 : ¬ (k : Int) = 0 := by omega
        have z2 : ((k : Int) == 0) = false := by simp; omega
        have b1 := Int.emod_nonneg (p : Int) z1
        have b2 := Int.emod_lt_of_pos (p : Int) (b := (k : Int)) (by omega)
        by_cases hkk : k * k ≤ p
        · have hk3 : k ≤ 32768 := by
            rcases Nat.lt_or_ge k 32769 with h | h
            · omega
            · have := Nat.mul_le_mul h h; omega
          have c1 : (k : Int) * k ≤ p := by omega
          by_cases hd : k ∣ p
          · have HV := Lib.hid (primeV_false (p := (p : Int)) (fun h => not_prime_of_dvd hk1 hkk hd (by have := h.2; rwa [Int.toNat_natCast] at this)))
            have t1 : ((p : Int) % k == 0) = true := by rw [← Int.natCast_emod, Nat.mod_eq_zero_of_dvd hd]; rfl
            clear hd x1 hkk hb
            go_wp2_with fail
            go_ret
            exact Ret.bool HV.out
          · have t1 : ((p : Int) % k == 0) = false := by
              rw [← Int.natCast_emod]; simp
              exact fun e => hd (Nat.dvd_of_mod_eq_zero (by omega))
            have HD := Lib.hid hd
            clear hd x1 hkk hb
            go_wp2_with fail
            go_round
            case rel =>
              refine ⟨k + 1, by omega, by omega, by go_num, fun e h1 h2 => ?_⟩
              by_cases hek : e = k
              · subst hek; exact HD.out
              · exact HP.out e h1 (by omega)
            case measure => simp [intOf]; omega
        · have HV := Lib.hid (primeV_true (p := p) (by omega) (prime_of_small (by omega) (by omega) HP.out))
          have c1 : ¬ (k : Int) * k ≤ p := by omega
          clear x1 hkk hb
          go_wp2_with fail
          go_ret
          exact Ret.bool HV.out

set_option maxHeartbeats 1000000 in
theorem elems_ref (A : Option Addr) (L : List Int) (c : Nat) (p : Int) (w : World) (hI : IntsAt w A L) (hl : L.length ≤ 1099511627776) :
    Calls Tryd.prog 47 #[.int .i64 p, .slice A L.length c] w (Ret (.bool (elemsI p L (primeV p))) w) := by
  have HI := Lib.hid hI
  clear hI
  go_enter Tryd.func47, Tryd.ntmps47
  go_wp2_with fail
  go_loop [9] (fun i => ∃ k : Nat, k ≤ L.length ∧ i = .int .i64 k ∧ ∀ j, j < k → 0 ≤ nth L j ∧ nth L j < p) (fun i => L.length - (intOf i).toNat)
  case atStart => exact ⟨0, by omega, rfl, fun j hj => absurd hj (by omega)⟩
  case round =>
    obtain ⟨k, hk, rfl, hpre⟩ := hrel
    have HP := Lib.hid hpre
    clear hpre
    by_cases hkl : k < L.length
    · obtain ⟨b, off, rfl, hb, hc⟩ := HI.out k hkl
      have HF := Lib.hid (fun h => inside_at (p := p) hkl h (primeV p))
      generalize hx : nth L k = x at *
      have HX := Lib.hid hx
      clear hx
      by_cases h1 : x < 0
      · go_wp2_with fail
        go_ret
        exact Ret.bool (HF.out (.inl h1))
      · by_cases h2 : p ≤ x
        · go_wp2_with fail
          go_ret
          exact Ret.bool (HF.out (.inr h2))
        · go_wp2_with fail
          go_round
          case rel =>
            refine ⟨k + 1, by omega, by go_num, fun j hj => ?_⟩
            by_cases hjk : j = k
            · subst hjk; rw [HX.out]; omega
            · exact HP.out j (by omega)
          case measure => simp [intOf]; omega
    · go_wp2_with fail
      refine ret_pure (refValid_any p _) ?_
      rw [inside_all (fun j hj => HP.out j (by omega)) (primeV p)]
      go_wp2_with fail
      go_ret
      exact Ret.bool rfl

end Go.Proofs.YtkjpnhhkebbmdaaDoor
namespace Go.Proofs.YtkjpnhhkebbmdaaDoor
open Go.RowKit

theorem sqrt_one {p x : Nat} (hp : PrimeN p) (hx : x < p) (h : fmul p x x = 1) : x = 1 ∨ x = p - 1 := by
  have h2 := hp.1
  rcases Nat.eq_zero_or_pos x with h0 | h0
  · subst h0; unfold fmul at h; simp at h
  · have hd : p ∣ (x - 1) * (x + 1) := by
      have e : (x - 1) * (x + 1) = x * x - 1 := by
        obtain ⟨y, rfl⟩ : ∃ y, x = y + 1 := ⟨x - 1, by omega⟩
        simp only [Nat.add_sub_cancel, Nat.add_mul, Nat.mul_add]; omega
      rw [e]
      have hxx : 1 ≤ x * x := Nat.mul_pos h0 h0
      refine (Nat.dvd_iff_mod_eq_zero).2 ?_
      unfold fmul at h
      have := Nat.sub_mod_eq_zero_of_mod_eq (m := x * x) (n := 1) (k := p) (by rw [h, Nat.mod_eq_of_lt (by omega)])
      exact this
    rcases hp.euclid hd with h1 | h1
    · left
      rcases Nat.eq_zero_or_pos (x - 1) with h3 | h3
      · omega
      · have := Nat.le_of_dvd h3 h1; omega
    · right
      have := Nat.le_of_dvd (by omega) h1; omega
theorem mrGo_prime {p : Nat} (hp : PrimeN p) : ∀ k x, x < p → ¬ x = 1 → ¬ x = p - 1 → fpow p x (2 ^ (k + 1)) = 1 → mrGo p k x = true
  | 0, x, hx, h1, h2, h => by
    exfalso
    have : fmul p x x = 1 := by rw [← h]; unfold fmul fpow; rw [Nat.zero_add, Nat.pow_one, Nat.pow_two]
    rcases sqrt_one hp hx this with e | e
    · exact h1 e
    · exact h2 e
  | k + 1, x, hx, h1, h2, h => by
    by_cases hy : fmul p x x = p - 1
    · exact mrGo_yes p k x hy
    · rw [mrGo_no p k x hy]
      have hp1 := hp.1
      refine mrGo_prime hp k _ (fmul_lt (by omega) _ _) (fun e => ?_) hy ?_
      · rcases sqrt_one hp hx e with e | e
        · exact h1 e
        · exact h2 e
      · have e : fpow p (fmul p x x) (2 ^ (k + 1)) = fpow p x (2 ^ (k + 1 + 1)) := by
          unfold fmul fpow
          rw [← Nat.pow_mod, ← Nat.pow_two, ← Nat.pow_mul, ← Nat.pow_succ']
        rw [e]; exact h
theorem mrPass_prime {p b : Nat} (hp : PrimeN p) (h3 : 3 ≤ p) (hb : ¬ p ∣ b) : mrPass p b = true := by
  by_cases h : mrX p b = 1 ∨ mrX p b = 0 ∨ mrX p b = p - 1
  · exact (mr_first p b h).symm
  · rw [← mr_later p b h]
    have hs : 1 ≤ mrS p := by
      rcases Nat.eq_zero_or_pos (mrS p) with h0 | h0
      · exfalso
        have hm := mr_mul p
        rw [h0, Nat.pow_zero, Nat.mul_one] at hm
        have hx : mrX p b = 1 := by
          unfold mrX fpow
          rw [hm, ← Nat.pow_mod]; exact flt hp hb
        exact h (.inl hx)
      · exact h0
    refine mrGo_prime hp _ _ (fpow_lt (by omega) _ _) (fun e => h (.inl e)) (fun e => h (.inr (.inr e))) ?_
    rw [show mrS p - 1 + 1 = mrS p by omega]
    unfold mrX fpow
    rw [← Nat.pow_mod, ← Nat.pow_mul, mr_mul, ← Nat.pow_mod]
    exact flt hp hb
theorem vGo_prime {p : Nat} (hp : PrimeN p) (h3 : 3 ≤ p) : ∀ l : List Nat, (∀ b ∈ l, PrimeN b) → vGo p l = true
  | [], _ => rfl
  | b :: l, hl => by
    by_cases hpb : p = b
    · exact vGo_eq hpb
    · have hb := hl b (by simp)
      have hnd : ¬ p % b = 0 := fun e => by
        rcases hp.2 b (Nat.dvd_of_mod_eq_zero e) with e | e
        · have := hb.1; omega
        · exact hpb e.symm
      have hnb : ¬ p ∣ b := fun e => by
        rcases hb.2 p e with e | e
        · omega
        · exact hpb e
      rw [vGo_pass hpb hnd (mrPass_prime hp h3 hnb)]
      exact vGo_prime hp h3 l (fun c hc => hl c (by simp [hc]))
theorem validI_prime {p : Nat} (hp : PrimeN p) (h : p ≤ 1073741824) : validI (p : Int) = true := by
  have h2 := hp.1
  rw [← validI_nat h2]
  by_cases he : p = 2
  · subst he; rfl
  · have hodd : ¬ (2 < p ∧ p % 2 = 0) := fun ⟨h4, h5⟩ => by
      rcases hp.2 2 (Nat.dvd_of_mod_eq_zero h5) with e | e
      · omega
      · omega
    rw [← validF_go (by omega)]
    refine vGo_prime hp (by omega) _ (fun b hb => ?_)
    simp at hb
    rcases hb with rfl | rfl | rfl | rfl
    · exact prime_2
    · exact prime_3
    · exact prime_5
    · exact prime_7
end Go.Proofs.YtkjpnhhkebbmdaaDoor
namespace Go.Proofs.YtkjpnhhkebbmdaaDoor
open Go.RowKit

theorem info_share : (Tryd.prog.info? 47).map (fun i => (i.zero, i.size, i.bytes)) = some (some (.agg #[.int .i64 0, .slice none 0 0]), 2, 32) := by kernel_rfl

/-! ### Lists of shares in memory -/
abbrev Shr := Int × List Int
def hS (S : List Shr) (k : Nat) : Int := (S.getD k (0, [])).1
def vS (S : List Shr) (k : Nat) : List Int := (S.getD k (0, [])).2
/-- What a slice may look like. -/
structure IOK (A : Option Addr) (c n : Nat) : Prop where
  len : n ≤ c
  cap : c ≤ maxLen
  nil : A = none → c = 0
  spot : n = 0 ∨ ∀ a, A = some a → a.spot = none
theorem IOK.none0 : IOK none 0 0 := ⟨Nat.le_refl _, Nat.zero_le _, fun _ => rfl, .inl rfl⟩
theorem SlOK.iok {A : Option Addr} {c : Nat} {L : List Nat} (h : SlOK A c L) : IOK A c L.length := ⟨h.len, h.cap, h.nil, .inr h.spot⟩
theorem IOK.take {A : Option Addr} {c n : Nat} (h : IOK A c n) (k : Nat) (hk : k ≤ n) : IOK A c k := ⟨Nat.le_trans hk h.len, h.cap, h.nil, h.spot.elim (fun e => .inl (by omega)) .inr⟩
/-- A slice of numbers; the blocks that it lies in satisfy P. -/
structure IntsP (P : Nat → Prop) (w : World) (A : Option Addr) (c : Nat) (L : List Int) : Prop where
  ints : IntsAt w A L
  ok : IOK A c L.length
  off : ∀ b off, A = some ⟨b, off, none⟩ → L.length = 0 ∨ P b
theorem IntsP.nil (P : Nat → Prop) (w : World) : IntsP P w none 0 [] := ⟨IntsAt.nil _ _, IOK.none0, fun b off e => by cases e⟩
/-- All blocks that satisfy P stand. -/
structure Kept (P : Nat → Prop) (w w' : World) : Prop where
  size : w.heap.size ≤ w'.heap.size
  block : ∀ b, P b → b < w.heap.size → w'.heap[b]? = w.heap[b]?
theorem Kept.below {P : Nat → Prop} {w w' : World} (hb : Below w.heap.size w w') : Kept P w w' := ⟨hb.size, fun b _ h => hb.block b h⟩
theorem Kept.mv {D : Nat} {w w' : World} (hg : w.grownBy w' (some D)) : Kept (· ≠ D) w w' := ⟨hg.size, fun b hb h => hg.block b h (fun e => by injection e with e; exact hb e)⟩
theorem Kept.app {B : Nat} {w w' : World} (hb : Below B w w') : Kept (· < B) w w' := ⟨hb.size, fun b h _ => hb.block b h⟩
theorem Kept.trans {P : Nat → Prop} {w w1 w2 : World} (h : Kept P w w1) (g : Kept P w1 w2) : Kept P w w2 := ⟨Nat.le_trans h.size g.size, fun b hP hb => (g.block b hP (Nat.lt_of_lt_of_le hb h.size)).trans (h.block b hP hb)⟩
theorem IntsAt.keep {P : Nat → Prop} {w w' : World} {A : Option Addr} {L : List Int} (h : IntsAt w A L) (hP : ∀ b off, A = some ⟨b, off, none⟩ → L.length = 0 ∨ P b) (hk : Kept P w w') : IntsAt w' A L := fun k hl => by
  obtain ⟨b, off, hA, hlt, hc⟩ := h k hl
  have hPb : P b := (hP b off hA).elim (fun e => by omega) id
  exact ⟨b, off, hA, Nat.lt_of_lt_of_le hlt hk.size, (World.cell?_of_block (w := w) (hk.block b hPb hlt)).trans hc⟩
theorem IntsP.keep {P : Nat → Prop} {w w' : World} {A : Option Addr} {c : Nat} {L : List Int} (h : IntsP P w A c L) (hk : Kept P w w') : IntsP P w' A c L := ⟨h.ints.keep h.off hk, h.ok, h.off⟩
theorem IntsP.mono {P Q : Nat → Prop} {w : World} {A : Option Addr} {c : Nat} {L : List Int} (h : IntsP P w A c L) (hPQ : ∀ b, b < w.heap.size → P b → Q b) : IntsP Q w A c L := ⟨h.ints, h.ok, fun b off e => by
  rcases h.off b off e with h0 | hP
  · exact .inl h0
  · rcases Nat.eq_zero_or_pos L.length with h0 | h0
    · exact .inl h0
    · obtain ⟨b', off', e', hlt, _⟩ := h.ints 0 h0
      rw [e] at e'; injection e' with e'; injection e' with e1; subst e1
      exact .inr (hPQ b hlt hP)⟩
theorem IntsAt.take {w : World} {A : Option Addr} {L : List Int} (h : IntsAt w A L) (k : Nat) : IntsAt w A (L.take k) := fun j hj => by
  have hj' : j < L.length := Nat.lt_of_lt_of_le hj (List.length_take_le' _ _)
  obtain ⟨b, off, hA, hb, hc⟩ := h j hj'
  exact ⟨b, off, hA, hb, by rw [hc, nth_eq hj', nth_eq hj]; simp⟩
theorem IntsAt.nats {w : World} {A : Option Addr} {L : List Nat} (h : IntsAt w A (ofN L)) : NatsAt w A L := fun k hk => by
  obtain ⟨b, off, hA, hb, hc⟩ := h k (by rw [len_ofN]; exact hk)
  exact ⟨b, off, hA, hb, by rw [hc, nth_ofN]⟩
/-- The address A leads to the shares S. -/
def ShAt (P : Nat → Prop) (w : World) (A : Option Addr) (S : List Shr) : Prop :=
  ∀ k, k < S.length → ∃ b off B c, A = some ⟨b, off, none⟩ ∧ b < w.heap.size ∧ P b ∧ w.cell? ⟨b, off + k * 2, none⟩ = some (.int .i64 (hS S k)) ∧
    w.cell? ⟨b, off + k * 2 + 1, none⟩ = some (.slice B (vS S k).length c) ∧ IntsP P w B c (vS S k)
structure ShP (P : Nat → Prop) (w : World) (A : Option Addr) (c : Nat) (S : List Shr) : Prop where
  at_ : ShAt P w A S
  ok : IOK A c S.length
theorem ShAt.keep {P : Nat → Prop} {w w' : World} {A : Option Addr} {S : List Shr} (h : ShAt P w A S) (hk : Kept P w w') : ShAt P w' A S := fun k hl => by
  obtain ⟨b, off, B, c, hA, hlt, hP, h1, h2, h3⟩ := h k hl
  exact ⟨b, off, B, c, hA, Nat.lt_of_lt_of_le hlt hk.size, hP, (World.cell?_of_block (w := w) (hk.block b hP hlt)).trans h1, (World.cell?_of_block (w := w) (hk.block b hP hlt)).trans h2, h3.keep hk⟩
theorem ShP.keep {P : Nat → Prop} {w w' : World} {A : Option Addr} {c : Nat} {S : List Shr} (h : ShP P w A c S) (hk : Kept P w w') : ShP P w' A c S := ⟨h.at_.keep hk, h.ok⟩
theorem ShP.below {P : Nat → Prop} {w w' : World} {A : Option Addr} {c : Nat} {S : List Shr} (h : ShP P w A c S) (hb : Below w.heap.size w w') : ShP P w' A c S := h.keep (Kept.below hb)
theorem ShP.mv {D : Nat} {w w' : World} {A : Option Addr} {c : Nat} {S : List Shr} (h : ShP (· ≠ D) w A c S) (hg : w.grownBy w' (some D)) : ShP (· ≠ D) w' A c S := h.keep (Kept.mv hg)
theorem ShP.mono {P Q : Nat → Prop} {w : World} {A : Option Addr} {c : Nat} {S : List Shr} (h : ShP P w A c S) (hPQ : ∀ b, b < w.heap.size → P b → Q b) : ShP Q w A c S := ⟨fun k hk => by
  obtain ⟨b, off, B, c, hA, hlt, hP, h1, h2, h3⟩ := h.at_ k hk
  exact ⟨b, off, B, c, hA, hlt, hPQ b hlt hP, h1, h2, h3.mono hPQ⟩, h.ok⟩
theorem ShP.any {P : Nat → Prop} {w : World} {A : Option Addr} {c : Nat} {S : List Shr} (h : ShP P w A c S) : ShP (fun _ => True) w A c S := h.mono fun _ _ _ => trivial
theorem ShP.nil (P : Nat → Prop) (w : World) : ShP P w none 0 [] := ⟨fun k h => absurd h (by simp), IOK.none0⟩
theorem hS_take {S : List Shr} {k j : Nat} (h : j < k) : hS (S.take k) j = hS S j := by simp [hS, List.getD_eq_getElem?_getD, h]
theorem vS_take {S : List Shr} {k j : Nat} (h : j < k) : vS (S.take k) j = vS S j := by simp [vS, List.getD_eq_getElem?_getD, h]
theorem ShP.take {P : Nat → Prop} {w : World} {A : Option Addr} {c : Nat} {S : List Shr} (h : ShP P w A c S) (k : Nat) : ShP P w A c (S.take k) := ⟨fun j hj => by
  have hl : (S.take k).length = min k S.length := List.length_take
  obtain ⟨b, off, B, c, hA, hlt, hP, h1, h2, h3⟩ := h.at_ j (by omega)
  refine ⟨b, off, B, c, hA, hlt, hP, ?_⟩
  rw [hS_take (by omega), vS_take (by omega)]
  exact ⟨h1, h2, h3⟩, h.ok.take _ (by rw [List.length_take]; omega)⟩
/-- The call returns a new list of shares. -/
def NewSh (S : List Shr) (w : World) (e : Ending) (w' : World) : Prop :=
  ∃ A c, e = .returned (.slice A S.length c) ∧ ShP (fun b => w.heap.size ≤ b) w' A c S ∧ Below w.heap.size w w'
def ShErr (S : List Shr) (er : Int) (w : World) (e : Ending) (w' : World) : Prop :=
  ∃ A c, e = .returned (.tuple #[.slice A S.length c, .int .i64 er]) ∧ ShP (fun b => w.heap.size ≤ b) w' A c S ∧ Below w.heap.size w w'
theorem ShErr.nil (er : Int) {w w' : World} (hb : Below w.heap.size w w') : ShErr [] er w (.returned (.tuple #[.slice none 0 0, .int .i64 er])) w' := ⟨none, 0, rfl, ShP.nil _ _, hb⟩

/-! ### Plans -/
theorem blk_lt {w : World} {x : Nat} {o : Obj} (h : w.heap[x]? = some o) : x < w.heap.size := by
  rcases Nat.lt_or_ge x w.heap.size with hlt | hge
  · exact hlt
  · rw [Array.getElem?_eq_none hge] at h; cases h
abbrev planV (p n h : Int) : Value := .agg #[.int .i64 p, .int .i64 n, .int .i64 h]
def PlanCell (w : World) (x : Nat) (p n h : Int) : Prop := w.heap[x]? = some (.cells #[.int .i64 p, .int .i64 n, .int .i64 h] 24 (0, 0))
theorem PlanCell.c0 {w : World} {x : Nat} {p n h : Int} (H : PlanCell w x p n h) : w.cell? ⟨x, 0, none⟩ = some (.int .i64 p) := by rw [cell_of_row w x 0 _ _ (0, 0) H]; rfl
theorem PlanCell.c1 {w : World} {x : Nat} {p n h : Int} (H : PlanCell w x p n h) : w.cell? ⟨x, 1, none⟩ = some (.int .i64 n) := by rw [cell_of_row w x 1 _ _ (0, 0) H]; rfl
theorem PlanCell.c2 {w : World} {x : Nat} {p n h : Int} (H : PlanCell w x p n h) : w.cell? ⟨x, 2, none⟩ = some (.int .i64 h) := by rw [cell_of_row w x 2 _ _ (0, 0) H]; rfl
theorem PlanCell.lt {w : World} {x : Nat} {p n h : Int} (H : PlanCell w x p n h) : x < w.heap.size := blk_lt H
theorem PlanCell.below {w w' : World} {x : Nat} {p n h : Int} (H : PlanCell w x p n h) (hb : Below w.heap.size w w') : PlanCell w' x p n h := (hb.block x (blk_lt H)).trans H
theorem PlanCell.keep {w w' : World} {x : Nat} {p n h : Int} (H : PlanCell w x p n h) (hb : w'.heap[x]? = w.heap[x]?) : PlanCell w' x p n h := hb.trans H
theorem PlanCell.new {w : World} {i : Nat} (p n h : Int) (hi : i = w.heap.size) : PlanCell (w.alloc (.cells #[.int .i64 p, .int .i64 n, .int .i64 h] 24)) i p n h := by subst hi; exact heap_alloc_new w _
theorem PlanCell.alloc {w : World} {i : Nat} {p n h : Int} (H : PlanCell w i p n h) (o : Obj) : PlanCell (w.alloc o) i p n h := H.below (below_alloc w o)

def PlanP (p n h : Int) : Prop := 1 ≤ n ∧ n ≤ h ∧ h ≤ 16 ∧ h < p ∧ validI p = true
instance (p n h : Int) : Decidable (PlanP p n h) := by unfold PlanP; exact inferInstance
def plB (p n h : Int) : Bool := decide (PlanP p n h)
theorem plB_no {p n h : Int} (H : ¬ PlanP p n h) : false = plB p n h := (decide_eq_false H).symm
theorem plB_yes {p n h : Int} (H : PlanP p n h) : true = plB p n h := (decide_eq_true H).symm
theorem plB_last {p n h : Int} (h1 : 1 ≤ n) (h2 : n ≤ h) (h3 : h ≤ 16) (h4 : h < p) : validI p = plB p n h := by
  unfold plB
  by_cases hv : validI p = true
  · rw [hv]; exact (decide_eq_true ⟨h1, h2, h3, h4, hv⟩).symm
  · rw [Bool.not_eq_true] at hv
    rw [hv]; exact (decide_eq_false (fun H => by have := H.2.2.2.2; rw [hv] at this; cases this)).symm
theorem plan_prime {p n h : Int} (H : PlanP p n h) (hv : primeV p = validI p) : ∃ q : Nat, p = (q : Int) ∧ PrimeN q ∧ q ≤ 1073741824 := by
  have h1 : primeV p = true := hv.trans H.2.2.2.2
  unfold primeV at h1
  have h2 := @of_decide_eq_true _ (Classical.propDecidable _) h1
  obtain ⟨a, b, c, d, -⟩ := H
  exact ⟨p.toNat, by omega, h2.2, by omega⟩

set_option maxRecDepth 100000 in
set_option maxHeartbeats 1000000 in
theorem valid_plan (p n h : Int) (w : World) (hB : Bases w) : Calls Tryd.prog 18 #[planV p n h] w (RetB (.bool (plB p n h)) w) := by
  have HB := Lib.hid hB
  clear hB
  by_cases h1 : 1 ≤ n
  · by_cases h2 : n ≤ h
    · by_cases h3 : h ≤ 16
      · by_cases h4 : h < p
        · have HV := Lib.hid (plB_last h1 h2 h3 h4)
          go_enter Tryd.func18, Tryd.ntmps18
          go_wp2_with fail
          refine ret_pure (valid_any p _ (HB.out.keep (below_alloc _ _))) ?_
          go_wp2_with fail
          go_ret
          exact RetB.bool HV.out (below_alloc _ _)
        · have HV := Lib.hid (plB_no (fun H : PlanP p n h => h4 H.2.2.2.1))
          go_enter Tryd.func18, Tryd.ntmps18
          go_wp2_with fail
          go_ret
          exact RetB.bool HV.out (below_alloc _ _)
      · have HV := Lib.hid (plB_no (fun H : PlanP p n h => h3 H.2.2.1))
        go_enter Tryd.func18, Tryd.ntmps18
        go_wp2_with fail
        go_ret
        exact RetB.bool HV.out (below_alloc _ _)
    · have HV := Lib.hid (plB_no (fun H : PlanP p n h => h2 H.2.1))
      go_enter Tryd.func18, Tryd.ntmps18
      go_wp2_with fail
      go_ret
      exact RetB.bool HV.out (below_alloc _ _)
  · have HV := Lib.hid (plB_no (fun H : PlanP p n h => h1 H.1))
    go_enter Tryd.func18, Tryd.ntmps18
    go_wp2_with fail
    go_ret
    exact RetB.bool HV.out (below_alloc _ _)

theorem plB_bad {p n h : Int} (H : validI p = false) : false = plB p n h := plB_no (fun g => by have := g.2.2.2.2; rw [H] at this; cases this)
set_option maxRecDepth 100000 in
set_option maxHeartbeats 1000000 in
theorem refValid_plan (p n h : Int) (w : World) (hv : primeV p = validI p) : Calls Tryd.prog 19 #[planV p n h] w (RetB (.bool (plB p n h)) w) := by
  have hc := fun w => refValid_any p w
  rw [hv] at hc
  have HC := Lib.hid hc
  clear hc hv
  cases hq : validI p with
  | false =>
    have HV := Lib.hid (plB_bad (n := n) (h := h) hq)
    have HQ := Lib.hid hq
    clear hq
    go_enter Tryd.func19, Tryd.ntmps19
    go_wp2_with fail
    refine ret_pure (HC.out _) ?_
    rw [HQ.out]
    go_wp2_with fail
    go_ret
    exact RetB.bool HV.out (below_alloc _ _)
  | true =>
    have HQ := Lib.hid hq
    clear hq
    by_cases h1 : 1 ≤ n
    · by_cases h2 : n ≤ h
      · by_cases h3 : h ≤ 16
        · have HV := Lib.hid (show decide (h < p) = plB p n h from by
            by_cases h4 : h < p
            · rw [decide_eq_true h4, ← plB_last h1 h2 h3 h4]; exact HQ.out.symm
            · rw [decide_eq_false h4]; exact plB_no (fun H => h4 H.2.2.2.1))
          go_enter Tryd.func19, Tryd.ntmps19
          go_wp2_with fail
          refine ret_pure (HC.out _) ?_
          rw [HQ.out]
          go_wp2_with fail
          go_ret
          exact RetB.bool HV.out (below_alloc _ _)
        · have HV := Lib.hid (plB_no (fun H : PlanP p n h => h3 H.2.2.1))
          go_enter Tryd.func19, Tryd.ntmps19
          go_wp2_with fail
          refine ret_pure (HC.out _) ?_
          rw [HQ.out]
          go_wp2_with fail
          go_ret
          exact RetB.bool HV.out (below_alloc _ _)
      · have HV := Lib.hid (plB_no (fun H : PlanP p n h => h2 H.2.1))
        go_enter Tryd.func19, Tryd.ntmps19
        go_wp2_with fail
        refine ret_pure (HC.out _) ?_
        rw [HQ.out]
        go_wp2_with fail
        go_ret
        exact RetB.bool HV.out (below_alloc _ _)
    · have HV := Lib.hid (plB_no (fun H : PlanP p n h => h1 H.1))
      go_enter Tryd.func19, Tryd.ntmps19
      go_wp2_with fail
      refine ret_pure (HC.out _) ?_
      rw [HQ.out]
      go_wp2_with fail
      go_ret
      exact RetB.bool HV.out (below_alloc _ _)

/-! ### Lists of elements -/
theorem enter_elem (args : Array Value) (w : World) : (callFunc 66 args).run Tryd.prog w = .ok (.enter 66 args) w :=
  MuLone.run_callFunc_enter Tryd.func66 (by kernel_rfl) rfl args w
def outB (p n : Int) : Bool := decide (n < 0) || decide (p ≤ n)
theorem outB_lt {p n : Int} (h : n < 0) : true = outB p n := by unfold outB; rw [decide_eq_true h]; rfl
theorem outB_ge {p n : Int} (h : ¬ n < 0) : decide (p ≤ n) = outB p n := by unfold outB; rw [decide_eq_false h]; rfl
set_option maxHeartbeats 400000 in
theorem elemC_any (x : Nat) (p nd h n : Int) (w : World) (hx : PlanCell w x p nd h) : Calls Tryd.prog 66 #[.int .i64 n, .pointer (some ⟨x, 0, none⟩)] w (RetB (.bool (outB p n)) w) := by
  have hc := hx.c0
  clear hx
  by_cases h1 : n < 0
  · have HV := Lib.hid (outB_lt (p := p) h1)
    go_enter Tryd.func66, Tryd.ntmps66
    go_wp2_with fail
    go_ret
    exact RetB.bool HV.out (Below.refl _ _)
  · have HV := Lib.hid (outB_ge (p := p) h1)
    go_enter Tryd.func66, Tryd.ntmps66
    go_wp2_with fail
    go_ret
    exact RetB.bool HV.out (Below.refl _ _)

def IxI (T : Int → Bool) (L : List Int) (i : Int) : Prop := (i = -1 ∧ ∀ j, j < L.length → T (nth L j) = false) ∨ ∃ k : Nat, i = k ∧ k < L.length ∧ T (nth L k) = true
set_option maxHeartbeats 1000000 in
theorem indexInts_any (n : Nat) (us : Array Value) (T : Int → Bool) (B : Option Addr) (L : List Int) (cap : Nat) (w : World) (hI : IntsAt w B L) (hl : L.length ≤ 1099511627776) (hn : ∀ args w, (callFunc n args).run Tryd.prog w = .ok (.enter n args) w)
    (hT : ∀ w', Below w.heap.size w w' → ∀ k, k < L.length → Calls Tryd.prog n (#[.int .i64 (nth L k)] ++ us) w' (RetB (.bool (T (nth L k))) w')) :
    Calls Tryd.prog 81 #[.slice B L.length cap, .func (.func n) #[] us] w (fun e w' => ∃ i : Int, e = .returned (.int .i64 i) ∧ IxI T L i ∧ Below w.heap.size w w') := by
  have HS := Lib.hid hI
  have HT := Lib.hid hT
  clear hI hT
  go_enter Tryd.func81, Tryd.ntmps81
  go_wp2_with fail
  go_loopw [8] (fun i wr => ∃ k : Nat, k ≤ L.length ∧ i = .int .i64 k ∧ (∀ j, j < k → T (nth L j) = false) ∧ Below w.heap.size w wr) (fun i _ => L.length - (intOf i).toNat)
  case atStart => exact ⟨0, Nat.zero_le _, rfl, fun j hj => absurd hj (by omega), Below.refl _ _⟩
  case round =>
    obtain ⟨k, hk, rfl, hpre, hbr⟩ := hrel
    have HP := Lib.hid hpre
    clear hpre
    by_cases hlt : k < L.length
    · obtain ⟨b, off, rfl, hbl, c1⟩ := HS.out k hlt
      have d1 := (hbr.cell hbl).trans c1
      have hbs := hbr.size
      clear c1
      go_wp2_with fail
      refine ret_below (HT.out _ hbr k hlt) fun w2 hb2 => ?_
      generalize hx : T (nth L k) = tv at *
      have HX := Lib.hid hx
      clear hx
      have hbw : Below w.heap.size w w2 := hbr.trans (hb2.mono hbs)
      cases tv with
      | true =>
        go_wp2_with fail
        go_ret
        exact ⟨_, rfl, .inr ⟨k, rfl, hlt, HX.out⟩, hbw⟩
      | false =>
        go_wp2_with fail
        go_roundw
        case rel =>
          refine ⟨k + 1, by omega, by go_num, fun j hj => ?_, hbw⟩
          by_cases hjk : j = k
          · subst hjk; exact HX.out
          · exact HP.out j (by omega)
        case measure => simp [intOf]; omega
    · go_wp2_with fail
      go_ret
      exact ⟨_, rfl, .inl ⟨rfl, fun j hj => HP.out j (by omega)⟩, hbr⟩
theorem ixI_any {T : Int → Bool} {L : List Int} {i : Int} (h : IxI T L i) : decide (0 ≤ i) = L.any T := by
  rcases h with ⟨rfl, h⟩ | ⟨k, rfl, hk, ht⟩
  · have : L.any T = false := by
      rw [List.any_eq_false]
      intro x hx
      obtain ⟨j, hj, rfl⟩ := List.getElem_of_mem hx
      have := h j hj
      rw [nth_eq hj] at this; simp [this]
    rw [this]; rfl
  · have : L.any T = true := by
      rw [List.any_eq_true]
      exact ⟨nth L k, by rw [nth_eq hk]; exact List.getElem_mem hk, ht⟩
    rw [this]; exact decide_eq_true (by omega)
set_option maxHeartbeats 400000 in
theorem containsInts_any (n : Nat) (us : Array Value) (T : Int → Bool) (B : Option Addr) (L : List Int) (cap : Nat) (w : World) (hI : IntsAt w B L) (hl : L.length ≤ 1099511627776) (hn : ∀ args w, (callFunc n args).run Tryd.prog w = .ok (.enter n args) w)
    (hT : ∀ w', Below w.heap.size w w' → ∀ k, k < L.length → Calls Tryd.prog n (#[.int .i64 (nth L k)] ++ us) w' (RetB (.bool (T (nth L k))) w')) :
    Calls Tryd.prog 65 #[.slice B L.length cap, .func (.func n) #[] us] w (RetB (.bool (L.any T)) w) := by
  have HC := Lib.hid (indexInts_any n us T B L cap w hI hl hn hT)
  clear hI hn hT
  go_enter Tryd.func65, Tryd.ntmps65
  go_wp2_with fail
  refine HC.out.mono ?_
  rintro e w1 ⟨i, rfl, hi, hb⟩
  have HI := Lib.hid (ixI_any hi)
  clear hi
  go_wp2_with fail
  go_ret
  exact RetB.bool HI.out hb
theorem any_out (p : Int) (L : List Int) : (!L.any (outB p)) = inside p L := by
  unfold inside
  induction L with
  | nil => rfl
  | cons x L ih =>
    simp only [List.any_cons, List.all_cons, Bool.not_or, ih]
    congr 1
    unfold outB
    rw [Bool.eq_iff_iff]; simp
set_option maxHeartbeats 400000 in
theorem elements_plan (p nd h : Int) (B : Option Addr) (L : List Int) (c : Nat) (w : World) (hI : IntsAt w B L) (hl : L.length ≤ 1099511627776) :
    Calls Tryd.prog 44 #[planV p nd h, .slice B L.length c] w (RetB (.bool (inside p L)) w) := by
  have HC := Lib.hid (containsInts_any 66 #[.pointer (some ⟨w.heap.size, 0, none⟩)] (outB p) B L c (w.alloc (.cells #[.int .i64 p, .int .i64 nd, .int .i64 h] 24)) (hI.below (below_alloc _ _)) hl enter_elem
    (fun w' hb k hk => elemC_any w.heap.size p nd h (nth L k) w' ((PlanCell.new p nd h rfl).below hb)))
  have HV := Lib.hid (any_out p L)
  clear hI
  go_enter Tryd.func44, Tryd.ntmps44
  go_wp2_with fail
  refine ret_below HC.out ?_
  intro w1 hb1
  go_wp2_with fail
  go_ret
  exact RetB.bool HV.out (below_trans (below_alloc _ _) hb1)
end Go.Proofs.YtkjpnhhkebbmdaaDoor
namespace Go.Proofs.YtkjpnhhkebbmdaaDoor
open Go.RowKit

/-! ### A share in a cell -/
abbrev shV (x : Int) (v : Value) : Value := .agg #[.int .i64 x, v]
def ShCell (w : World) (g : Nat) (x : Int) (v : Value) : Prop := w.heap[g]? = some (.cells #[.int .i64 x, v] 47 (0, 0))
theorem ShCell.c0 {w : World} {g : Nat} {x : Int} {v : Value} (H : ShCell w g x v) : w.cell? ⟨g, 0, none⟩ = some (.int .i64 x) := by rw [cell_of_row w g 0 _ _ (0, 0) H]; rfl
theorem ShCell.c1 {w : World} {g : Nat} {x : Int} {v : Value} (H : ShCell w g x v) : w.cell? ⟨g, 1, none⟩ = some v := by rw [cell_of_row w g 1 _ _ (0, 0) H]; rfl
theorem ShCell.frozen {w : World} {g : Nat} {x : Int} {v : Value} (H : ShCell w g x v) (j : Nat) : w.frozen? ⟨g, j, none⟩ = false := by unfold ShCell at H; simp [World.frozen?, H]
theorem ShCell.below {w w' : World} {g : Nat} {x : Int} {v : Value} (H : ShCell w g x v) (hb : Below w.heap.size w w') : ShCell w' g x v := (hb.block g (blk_lt H)).trans H
theorem ShCell.new {w : World} {i : Nat} (x : Int) (v : Value) (hi : i = w.heap.size) : ShCell (w.alloc (.cells #[.int .i64 x, v] 47)) i x v := by subst hi; exact heap_alloc_new w _
theorem ShCell.alloc {w : World} {i : Nat} {x : Int} {v : Value} (H : ShCell w i x v) (o : Obj) : ShCell (w.alloc o) i x v := H.below (below_alloc w o)
theorem ShCell.other {w : World} {i : Nat} {x : Int} {v : Value} (H : ShCell w i x v) (q : Addr) (u : Value) (hq : i ≠ q.block) : ShCell (w.setCell q u) i x v := (Below.heap_setCell w q u i hq).trans H
theorem ShCell.set1 {w : World} {g : Nat} {x : Int} {v : Value} (H : ShCell w g x v) (u : Value) : ShCell (w.setCell ⟨g, 1, none⟩ u) g x u := by
  unfold ShCell at H ⊢; simp [World.setCell, Array.getElem?_modify, H]
theorem ShCell.set0 {w : World} {g : Nat} {x : Int} {v : Value} (H : ShCell w g x v) (y : Int) : ShCell (w.setCell ⟨g, 0, none⟩ (.int .i64 y)) g y v := by
  unfold ShCell at H ⊢; simp [World.setCell, Array.getElem?_modify, H]

/-! ### Stands -/
def stB (p h : Int) (x : Int) (L : List Int) : Bool := decide (1 ≤ x) && decide (x ≤ h) && inside p L
theorem stB_lo {p h x : Int} {L : List Int} (H : ¬ 1 ≤ x) : false = stB p h x L := by unfold stB; rw [decide_eq_false H]; rfl
theorem stB_hi {p h x : Int} {L : List Int} (H : ¬ x ≤ h) : false = stB p h x L := by unfold stB; rw [decide_eq_false H, Bool.and_false]; rfl
theorem stB_in {p h x : Int} {L : List Int} (H : 1 ≤ x) (H2 : x ≤ h) : inside p L = stB p h x L := by unfold stB; rw [decide_eq_true H, decide_eq_true H2]; rfl
theorem stB_bd {p h x : Int} {L : List Int} (H : stB p h x L = true) : 1 ≤ x ∧ x ≤ h ∧ inside p L = true := by
  unfold stB at H; simp only [Bool.and_eq_true, decide_eq_true_eq] at H; exact ⟨H.1.1, H.1.2, H.2⟩

set_option maxRecDepth 100000 in
set_option maxHeartbeats 1000000 in
theorem stands_any (p n h x : Int) (B : Option Addr) (L : List Int) (c : Nat) (w : World) (hI : IntsAt w B L) (hl : L.length ≤ 1099511627776) :
    Calls Tryd.prog 59 #[planV p n h, shV x (.slice B L.length c)] w (RetB (.bool (stB p h x L)) w) := by
  have HI := Lib.hid hI
  clear hI
  by_cases h1 : 1 ≤ x
  · by_cases h2 : x ≤ h
    · have HV := Lib.hid (stB_in (p := p) (L := L) h1 h2)
      go_enter Tryd.func59, Tryd.ntmps59
      go_wp2_with fail
      refine ret_below (elements_plan p n h B L c _ ((HI.out.below (below_alloc _ _)).below (below_alloc _ _)) hl) ?_
      intro w1 hb1
      go_wp2_with fail
      go_ret
      exact RetB.bool HV.out (below_trans (below_trans (below_alloc _ _) (below_alloc _ _)) hb1)
    · have HV := Lib.hid (stB_hi (p := p) (L := L) h2)
      go_enter Tryd.func59, Tryd.ntmps59
      go_wp2_with fail
      go_ret
      exact RetB.bool HV.out (below_trans (below_alloc _ _) (below_alloc _ _))
  · have HV := Lib.hid (stB_lo (p := p) (h := h) (L := L) h1)
    go_enter Tryd.func59, Tryd.ntmps59
    go_wp2_with fail
    go_ret
    exact RetB.bool HV.out (below_trans (below_alloc _ _) (below_alloc _ _))

set_option maxRecDepth 100000 in
set_option maxHeartbeats 1000000 in
theorem refStands_any (p n h x : Int) (B : Option Addr) (L : List Int) (c : Nat) (w : World) (hv : primeV p = true) (hI : IntsAt w B L) (hl : L.length ≤ 1099511627776) :
    Calls Tryd.prog 61 #[planV p n h, shV x (.slice B L.length c)] w (RetB (.bool (stB p h x L)) w) := by
  have hc : ∀ W, IntsAt W B L → Calls Tryd.prog 47 #[.int .i64 p, .slice B L.length c] W (Ret (.bool (inside p L)) W) := fun W hW => by
    have := elems_ref B L c p W hW hl
    unfold elemsI at this
    rw [hv, Bool.and_true] at this
    exact this
  have HC := Lib.hid hc
  have HI := Lib.hid hI
  clear hI hv hc
  by_cases h1 : 1 ≤ x
  · by_cases h2 : x ≤ h
    · have HV := Lib.hid (stB_in (p := p) (L := L) h1 h2)
      go_enter Tryd.func61, Tryd.ntmps61
      go_wp2_with fail
      refine ret_pure (HC.out _ ((HI.out.below (below_alloc _ _)).below (below_alloc _ _))) ?_
      go_wp2_with fail
      go_ret
      exact RetB.bool HV.out (below_trans (below_alloc _ _) (below_alloc _ _))
    · have HV := Lib.hid (stB_hi (p := p) (L := L) h2)
      go_enter Tryd.func61, Tryd.ntmps61
      go_wp2_with fail
      go_ret
      exact RetB.bool HV.out (below_trans (below_alloc _ _) (below_alloc _ _))
  · have HV := Lib.hid (stB_lo (p := p) (h := h) (L := L) h1)
    go_enter Tryd.func61, Tryd.ntmps61
    go_wp2_with fail
    go_ret
    exact RetB.bool HV.out (below_trans (below_alloc _ _) (below_alloc _ _))

/-! ### Good -/
/-- What each share of a good list satisfies. -/
structure GdAt (p h : Int) (S : List Shr) (k : Nat) : Prop where
  st : stB p h (hS S k) (vS S k) = true
  len : (vS S k).length = (vS S 0).length
  few : (vS S k).length ≤ 2048
  new : ∀ j, j < k → hS S j ≠ hS S k
def GdP (p h : Int) (S : List Shr) : Prop := ∀ k, k < S.length → GdAt p h S k
noncomputable def gdB (p h : Int) (S : List Shr) : Bool := @decide (GdP p h S) (Classical.propDecidable _)
theorem gdB_no {p h : Int} {S : List Shr} (k : Nat) (hk : k < S.length) (H : ¬ GdAt p h S k) : false = gdB p h S := (@decide_eq_false _ (Classical.propDecidable _) (fun g => H (g k hk))).symm
theorem gdB_yes {p h : Int} {S : List Shr} (H : GdP p h S) : true = gdB p h S := (@decide_eq_true _ (Classical.propDecidable _) H).symm
theorem gdB_of {p h : Int} {S : List Shr} (H : gdB p h S = true) : GdP p h S := @of_decide_eq_true _ (Classical.propDecidable _) H
theorem gdB_of_not {p h : Int} {S : List Shr} (H : gdB p h S = false) : ¬ GdP p h S := @of_decide_eq_false _ (Classical.propDecidable _) H
/-- No list is longer than this. -/
def Short (S : List Shr) : Prop := ∀ k, k < S.length → (vS S k).length ≤ 1048576
theorem size_alloc (w : World) (o : Obj) : (w.alloc o).heap.size = w.heap.size + 1 := by simp
/-- Block g: which numbers have been seen. -/
structure SeenAt (w : World) (g : Nat) (f : Nat → Bool) : Prop where
  lt : g < w.heap.size
  cell : ∀ j, j < 17 → w.cell? ⟨g, j, none⟩ = some (.bool (f j))
  free : ∀ j, w.frozen? ⟨g, j, none⟩ = false
theorem SeenAt.below {w w' : World} {g : Nat} {f : Nat → Bool} (h : SeenAt w g f) (hb : Below w.heap.size w w') : SeenAt w' g f :=
  ⟨Nat.lt_of_lt_of_le h.lt hb.size, fun j hj => (hb.cell h.lt).trans (h.cell j hj), fun j => (hb.frozen (p := ⟨g, j, none⟩) h.lt).trans (h.free j)⟩
theorem SeenAt.set_ {w : World} {g : Nat} {f : Nat → Bool} (h : SeenAt w g f) (j : Nat) (hj : j < 17) : SeenAt (w.setCell ⟨g, j, none⟩ (.bool true)) g (fun i => if i = j then true else f i) := by
  refine ⟨by have := h.lt; simpa [World.setCell] using this, fun i hi => ?_, fun i => ?_⟩
  · by_cases e : i = j
    · subst e
      rw [World.cell?_setCell_same _ _ _ (by rw [h.cell i hi])]; simp
    · rw [World.cell?_setCell_other _ _ _ _ (fun e' => by injection e' with e1 e2; exact e e2.symm), h.cell i hi, if_neg e]
  · rw [World.frozen?_setCell]; exact h.free i
def seenF (S : List Shr) (k : Nat) (m : Nat) : Bool := (List.range k).any fun j => decide (hS S j = (m : Int))
theorem seenF_zero (S : List Shr) (m : Nat) : seenF S 0 m = false := rfl
theorem seenF_succ (S : List Shr) (k : Nat) (x : Nat) (hx : hS S k = (x : Int)) (m : Nat) : seenF S (k + 1) m = if m = x then true else seenF S k m := by
  unfold seenF
  rw [List.range_succ, List.any_append]
  simp only [List.any_cons, List.any_nil, Bool.or_false, hx]
  by_cases e : m = x
  · subst e; simp
  · rw [if_neg e, decide_eq_false (by omega), Bool.or_false]
theorem seenF_yes {S : List Shr} {k x : Nat} (hx : hS S k = (x : Int)) (h : seenF S k x = true) : ¬ ∀ j, j < k → hS S j ≠ hS S k := fun g => by
  unfold seenF at h
  rw [List.any_eq_true] at h
  obtain ⟨j, hj, hd⟩ := h
  exact g j (List.mem_range.1 hj) (by rw [of_decide_eq_true hd, hx])
theorem seenF_no {S : List Shr} {k x : Nat} (hx : hS S k = (x : Int)) (h : seenF S k x = false) : ∀ j, j < k → hS S j ≠ hS S k := fun j hj e => by
  unfold seenF at h
  rw [List.any_eq_false] at h
  exact h j (List.mem_range.2 hj) (by rw [e, hx]; simp)
end Go.Proofs.YtkjpnhhkebbmdaaDoor
