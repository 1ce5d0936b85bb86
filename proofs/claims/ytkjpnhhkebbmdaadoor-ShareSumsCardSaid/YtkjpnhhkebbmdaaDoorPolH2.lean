/-
  Polynomials: weights of places, by the program.
-/
import Derived.Test.YtkjpnhhkebbmdaaDoorPolG2
namespace Go.Proofs.YtkjpnhhkebbmdaaDoor
open Go.RowKit

theorem elem_one (p : Nat) (w : World) (hp : 1 ≤ p) (hp2 : p ≤ 2147483648) : Calls Tryd.prog 75 #[.int .i64 p, .int .i64 1] w (Ret (.int .i64 (fone p : Nat)) w) := by
  have h := element_nat p 1 w hp hp2
  exact h
theorem topN_skip {p i x : Nat} {xs : List Nat} {k : Nat} (h : k = i) : topN p i x xs (k + 1) = topN p i x xs k := by simp only [topN]; rw [if_pos h]
theorem topN_go {p i x : Nat} {xs : List Nat} {k : Nat} (h : ¬ k = i) : topN p i x xs (k + 1) = fmul p (topN p i x xs k) (fsub p x (nthN xs k)) := by simp only [topN]; rw [if_neg h]
theorem wN_of {p : Nat} {xs : List Nat} {i x a b : Nat} (ha : a = topN p i x xs xs.length) (hb : b = topN p i (nthN xs i) xs xs.length) : fmul p a (invV p b) = wN p xs i x := by rw [ha, hb]; rfl

set_option maxRecDepth 100000 in
set_option maxHeartbeats 1000000 in
theorem weight_any (p : Nat) (A : Option Addr) (L : List Nat) (cap i x : Nat) (w : World) (hp : 2 ≤ p) (hp2 : p ≤ 2147483648) (hN : NatsAt w A L) (hL : ∀ y ∈ L, y < p) (hl : L.length ≤ 1073741824) (hi : i < L.length) (hx : x < p) :
    Calls Tryd.prog 69 #[.int .i64 p, .slice A L.length cap, .int .i64 i, .int .i64 x] w (RetB (.int .i64 (wN p L i x : Nat)) w) := by
  have hp1 : 1 ≤ p := by omega
  have HN := Lib.hid hN
  have HL := Lib.hid (nthN_lt hp1 hL)
  have hxi := nthN_lt hp1 hL i
  have hmx : Tryd.prog.follows .mixedOrders = true := by kernel_rfl
  clear hN hL
  go_enter Tryd.func69, Tryd.ntmps69
  go_wp2_with (go_at_call 75; refine ret_pure (elem_one p _ hp1 hp2) ?_)
  go_loopw [9, 10, 21] (fun a b j wr => ∃ (k a' b' : Nat), k ≤ L.length ∧ j = .int .i64 k ∧ a = .int .i64 a' ∧ b = .int .i64 b' ∧ a' < p ∧ b' < p ∧ a' = topN p i x L k ∧ b' = topN p i (nthN L i) L k ∧ Below w.heap.size w wr) (fun _ _ j _ => L.length - (intOf j).toNat)
  case atStart => exact ⟨0, fone p, fone p, Nat.zero_le _, rfl, rfl, rfl, fone_lt hp1, fone_lt hp1, rfl, rfl, Below.refl _ _⟩
  case round =>
    obtain ⟨k, a, b, hk, rfl, rfl, rfl, ha, hb, hae, hbe, hbr⟩ := hrel
    have HAE := Lib.hid hae
    have HBE := Lib.hid hbe
    clear hae hbe
    by_cases hlt : k < L.length
    · obtain ⟨bA, oA, rfl, hbA, hcA⟩ := (HN.out.below hbr) k hlt
      by_cases hki : k = i
      · have t1 : ((k : Int) != (i : Int)) = false := by simp; omega
        have HKI := Lib.hid hki
        clear hki
        go_wp2_with fail
        go_roundw
        case rel => exact ⟨k + 1, a, b, by omega, by go_num, rfl, rfl, ha, hb, by rw [topN_skip HKI.out]; exact HAE.out, by rw [topN_skip HKI.out]; exact HBE.out, hbr⟩
        case measure => simp [intOf]; omega
      · have t1 : ((k : Int) != (i : Int)) = true := by simp; omega
        have HKI := Lib.hid hki
        clear hki
        obtain ⟨bI, oI, eI, hbI, hcI⟩ := (HN.out.below hbr) i hi
        injection eI with eI; injection eI with e1 e2; subst e1; subst e2
        have hy := HL.out k
        have hs1 := fsub_lt hp1 x (nthN L k)
        have hs2 := fsub_lt hp1 (nthN L i) (nthN L k)
        have i1 : (0 : Int) ≤ (i : Int) := by omega
        have i2 : (i : Int) < (L.length : Int) := by omega
        go_wp2_with fail
        go_quiet ((first
          | (go_at_call 77; exact Calls.quiet_of_same (sub_nat p _ _ _ hp1 hp2 (by assumption) (by assumption)))
          | (go_at_call 71; exact Calls.quiet_of_same (mul_nat p _ _ _ hp1 hp2 (by assumption) (by assumption)))))
        go_wp2_with fail
        go_roundw
        case rel => exact ⟨k + 1, fmul p a (fsub p x (nthN L k)), fmul p b (fsub p (nthN L i) (nthN L k)), by omega, by go_num, rfl, rfl, fmul_lt hp1 _ _, fmul_lt hp1 _ _, by rw [topN_go HKI.out, HAE.out], by rw [topN_go HKI.out, HBE.out], below_drewN hbr _⟩
        case measure => simp [intOf]; omega
    · obtain rfl : k = L.length := by omega
      have HW := Lib.hid (wN_of HAE.out HBE.out)
      have hil := invV_lt hp1 b
      go_wp2_with fail
      refine ret_pure (inverse_any p b _ hp hp2 hb) ?_
      go_wp2_with fail
      refine ret_pure (mul_nat p a (invV p b) _ hp1 hp2 ha hil) ?_
      go_wp2_with fail
      go_ret
      exact RetB.int (by rw [HW.out]) hbr

/-- A new list, and an error. -/
def ListErr (L : List Nat) (er : Int) (w : World) (e : Ending) (w' : World) : Prop :=
  ∃ A c, e = .returned (.tuple #[.slice A L.length c, .int .i64 er]) ∧ NatsAt w' A L ∧ SlOK A c L ∧ (∀ b off, A = some ⟨b, off, none⟩ → w.heap.size ≤ b ∧ b < w'.heap.size) ∧ Below w.heap.size w w'
theorem ListErr.nil (er : Int) {w w' : World} (hb : Below w.heap.size w w') : ListErr [] er w (.returned (.tuple #[.slice none 0 0, .int .i64 er])) w' :=
  ⟨none, 0, rfl, NatsAt.nil _ _, SlOK.none0, fun b off e => (by cases e), hb⟩
def wsR (p : Nat) (xs : List Nat) (x : Nat) : List Nat := if ckE xs = 0 then wsN p xs x else []
theorem wsR_ok {p : Nat} {xs : List Nat} {x : Nat} (h : ckE xs = 0) : wsR p xs x = wsN p xs x := if_pos h
theorem wsR_no {p : Nat} {xs : List Nat} {x : Nat} (h : ¬ ckE xs = 0) : wsR p xs x = [] := if_neg h
theorem ckE_ok {xs : List Nat} (h0 : ¬ xs.length = 0) (hn : xs.Nodup) : ckE xs = 0 := by rw [ckE_pos h0, plE_yes hn]
theorem ckE_back {xs : List Nat} (h : ckE xs = 0) : 0 < xs.length ∧ xs.Nodup := by
  unfold ckE plE at h
  split at h
  · omega
  · split at h
    · exact ⟨by omega, by assumption⟩
    · omega
set_option maxRecDepth 100000 in
set_option maxHeartbeats 1000000 in
theorem weights_any (p : Nat) (A : Option Addr) (L : List Nat) (cap x : Nat) (w : World) (hp : 2 ≤ p) (hp2 : p ≤ 2147483648) (hN : NatsAt w A L) (hL : ∀ y ∈ L, y < p) (hl : L.length ≤ 1073741824) (hx : x < p) :
    Calls Tryd.prog 51 #[.int .i64 p, .slice A L.length cap, .int .i64 x] w (ListErr (wsR p L x) (ckE L) w) := by
  have hck := check_any A L cap w hN hl (fun x hx => by have := hL x hx; omega)
  by_cases h0 : ckE L = 0
  · have HR := Lib.hid (wsR_ok (p := p) (x := x) h0)
    rw [h0] at hck ⊢
    have HC := Lib.hid hck
    have HN := Lib.hid hN
    have HL := Lib.hid hL
    have HLN := Lib.hid (wsN_len p L x)
    have HWN := Lib.hid (fun i (h : i < L.length) => wsN_nth p L x h)
    clear h0 hck hN hL
    go_enter Tryd.func51, Tryd.ntmps51
    go_wp2_with fail
    refine ret_below HC.out ?_
    intro w1 hb1
    go_wp2_with (at_make; refine make_nats rfl _ _ rfl L.length rfl rfl rfl (by omega) ?_; intro w2 hB2 hb2)
    have hb12 := below_trans hb1 hb2
    have hz1 := hb1.size
    go_loopw [21] (fun i wr => ∃ (k : Nat) (cs : List Nat), k ≤ L.length ∧ i = .int .i64 k ∧ NatBlk wr w1.heap.size cs ∧ cs.length = L.length ∧ (∀ j, j < k → nthN cs j = nthN (wsN p L x) j) ∧ Below w.heap.size w wr) (fun i _ => L.length - (intOf i).toNat)
    case atStart => exact ⟨0, _, by omega, rfl, hB2, by simp, fun j hj => absurd hj (by omega), hb12⟩
    case round =>
      obtain ⟨k, cs, hk, rfl, hBk, hcl, hcs, hbr⟩ := hrel
      have HCL := Lib.hid hcl
      have HCS := Lib.hid hcs
      clear hcl hcs
      by_cases hkn : k < L.length
      · go_wp2_with fail
        refine ret_below (weight_any p A L cap k x wr hp hp2 (HN.out.below hbr) HL.out hl hkn hx) ?_
        intro w3 hb3
        have hB3 := hBk.below hb3
        have hcc := hB3.cell k (by rw [HCL.out]; exact hkn)
        have hff := hB3.frozen k
        have HS := Lib.hid (hB3.set_ k (wN p L k x))
        have HBR := Lib.hid ((below_trans hbr hb3).setCell (p := ⟨w1.heap.size, k, none⟩) hz1 (.int .i64 ((wN p L k x : Nat) : Int)))
        clear hb3 hB3
        go_wp2_with fail
        go_roundw
        case rel =>
          refine ⟨k + 1, cs.set k (wN p L k x), by omega, by go_num, HS.out, by rw [List.length_set]; exact HCL.out, fun j hj => ?_, HBR.out⟩
          by_cases hjk : k = j
          · subst hjk; rw [nthN_set_same _ _ _ (by rw [HCL.out]; exact hkn), HWN.out k hkn]
          · rw [nthN_set_other _ _ _ _ hjk]; exact HCS.out j (by omega)
        case measure => simp [intOf]; omega
      · have HE : Hid (cs = wsN p L x) := extN (by rw [HCL.out, HLN.out]) (fun j hj => HCS.out j (by rw [HCL.out] at hj; omega))
        go_wp2_with fail
        go_ret2
        rw [HR.out]
        refine ⟨some ⟨w1.heap.size, 0, none⟩, L.length, by rw [HLN.out]; rfl, by rw [← HE.out]; exact hBk.nats, ?_, fun b off e => ?_, hbr⟩
        · have := SlOK.own hBk (by rw [HCL.out]; unfold maxLen; omega)
          rw [HCL.out, HE.out] at this; exact this
        · injection e with e; injection e with e1; subst e1; exact ⟨hz1, hBk.lt⟩
  · have HR := Lib.hid (wsR_no (p := p) (x := x) h0)
    have HC := Lib.hid hck
    have t1 : (ckE L != 0) = true := by simp; exact h0
    clear h0 hck hN hL
    go_enter Tryd.func51, Tryd.ntmps51
    go_wp2_with fail
    refine ret_below HC.out ?_
    intro w1 hb1
    go_wp2_with fail
    go_ret2
    rw [HR.out]
    exact ListErr.nil _ hb1

set_option maxRecDepth 100000 in
set_option maxHeartbeats 1000000 in
theorem weigh_any (p : Nat) (A B : Option Addr) (W Y : List Nat) (ca cb : Nat) (w : World) (hp : 1 ≤ p) (hp2 : p ≤ 2147483648) (hA : NatsAt w A W) (hB : NatsAt w B Y) (hW : ∀ y ∈ W, y < p) (hY : ∀ y ∈ Y, y < p) (hl : W.length ≤ Y.length) (hl2 : Y.length ≤ 1073741824) :
    Calls Tryd.prog 53 #[.int .i64 p, .slice A W.length ca, .slice B Y.length cb] w (Ret (.int .i64 (wgN p W Y W.length : Nat)) w) := by
  have HA := Lib.hid hA
  have HB := Lib.hid hB
  have HW := Lib.hid (nthN_lt hp hW)
  have HY := Lib.hid (nthN_lt hp hY)
  clear hA hB hW hY
  go_enter Tryd.func53, Tryd.ntmps53
  go_wp2_with fail
  go_loop [7, 12] (fun v i => ∃ (k v' : Nat), k ≤ W.length ∧ i = .int .i64 k ∧ v = .int .i64 v' ∧ v' < p ∧ v' = wgN p W Y k) (fun _ i => W.length - (intOf i).toNat)
  case atStart => exact ⟨0, 0, Nat.zero_le _, rfl, rfl, hp, rfl⟩
  case round =>
    obtain ⟨k, v, hk, rfl, rfl, hv, hve⟩ := hrel
    have HV := Lib.hid hve
    clear hve
    by_cases hlt : k < W.length
    · obtain ⟨bA, oA, rfl, hbA, hcA⟩ := HA.out k hlt
      obtain ⟨bB, oB, rfl, hbB, hcB⟩ := HB.out k (by omega)
      have h1 := HW.out k
      have h2 := HY.out k
      have h3 := fmul_lt hp (nthN W k) (nthN Y k)
      go_wp2_with fail
      refine ret_pure (mul_nat p (nthN W k) (nthN Y k) _ hp hp2 h1 h2) ?_
      go_wp2_with fail
      refine ret_pure (add_nat p v (fmul p (nthN W k) (nthN Y k)) _ hp hp2 hv h3) ?_
      go_wp2_with fail
      go_round
      case rel => exact ⟨k + 1, _, by omega, by go_num, rfl, fadd_lt hp _ _, by rw [HV.out]; rfl⟩
      case measure => simp [intOf]; omega
    · obtain rfl : k = W.length := by omega
      go_wp2_with fail
      go_ret
      exact Ret.int (by rw [HV.out])

/-- A number, and an error. -/
def itE (xs ys : List Nat) : Int := if xs.length = ys.length then ckE xs else 1
def itV (p : Nat) (xs ys : List Nat) (x : Nat) : Nat := if itE xs ys = 0 then wgN p (wsN p xs x) ys xs.length else 0
theorem itE_len {xs ys : List Nat} (h : xs.length = ys.length) : itE xs ys = ckE xs := if_pos h
theorem itE_no {xs ys : List Nat} (h : ¬ xs.length = ys.length) : itE xs ys = 1 := if_neg h
theorem itV_ok {p : Nat} {xs ys : List Nat} {x : Nat} (h : itE xs ys = 0) : itV p xs ys x = wgN p (wsN p xs x) ys xs.length := if_pos h
theorem itV_no {p : Nat} {xs ys : List Nat} {x : Nat} (h : ¬ itE xs ys = 0) : itV p xs ys x = 0 := if_neg h
theorem pairB {w w' : World} {x y : Nat} {a b : Int} (h1 : x = y) (h2 : a = b) (hb : Below w.heap.size w w') : RetB (.tuple #[.int .i64 (y : Int), .int .i64 b]) w (.returned (.tuple #[.int .i64 (x : Int), .int .i64 a])) w' := by
  subst h1; subst h2; exact ⟨rfl, hb⟩
end Go.Proofs.YtkjpnhhkebbmdaaDoor
