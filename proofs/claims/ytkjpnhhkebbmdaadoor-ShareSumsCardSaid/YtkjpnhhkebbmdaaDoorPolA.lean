/-
  Polynomials: the library's walk of a list from its end; values and degrees.
-/
import Derived.Test.YtkjpnhhkebbmdaaDoorPolT
import Derived.RangeFuncNested
import Derived.RangeFuncBound
import Derived.RangeFuncCalls
import Derived.RangeFuncLeaves
import Derived.RangeFuncBox
import Derived.Shelf.Abstract
import Derived.Shelf.RegionOpen
import Derived.OwnWalkIn
import Derived.TacticsInMore
import Derived.LoopNIn
import Derived.LoopIn
namespace Go.Proofs.YtkjpnhhkebbmdaaDoor
open Go.RowKit Go.Shelf

attribute [local go_sem] Oper.semAt_some

/-- What has come when k rounds of a walk from the end are over: the places. -/
def dnF (n : Nat) : (k : Nat) → k ≤ n → List (Fin n)
  | 0, _ => []
  | k + 1, h => dnF n k (by omega) ++ [⟨n - 1 - k, by omega⟩]
theorem dnF_len (n : Nat) : ∀ (k : Nat) (h : k ≤ n), (dnF n k h).length = k
  | 0, _ => rfl
  | k + 1, h => by simp [dnF, dnF_len n k]
/-- A list that lies below n₀. -/
def NatsLow (n₀ : Nat) (W : World) (A : Option Addr) (L : List Nat) : Prop :=
  ∀ k, k < L.length → ∃ b off, A = some ⟨b, off, none⟩ ∧ b < n₀ ∧ W.cell? ⟨b, off + k, none⟩ = some (.int .i64 (nthN L k : Nat))
theorem NatsLow.below {n₀ : Nat} {W W' : World} {A : Option Addr} {L : List Nat} (h : NatsLow n₀ W A L) (hb : Below n₀ W W') : NatsLow n₀ W' A L := fun k hk => by
  obtain ⟨b, off, hA, hlt, hc⟩ := h k hk
  exact ⟨b, off, hA, hlt, (hb.cell hlt).trans hc⟩
theorem NatsAt.low {w : World} {A : Option Addr} {L : List Nat} (h : NatsAt w A L) : NatsLow w.heap.size w A L := h

/-- What a round keeps: what lay below n₀, and the slice's box. -/
structure KpB (n₀ Bs : Nat) (W W' : World) : Prop where
  low : Below n₀ W W'
  box : W'.heap[Bs]? = W.heap[Bs]?
theorem KpB.refl (n₀ Bs : Nat) (W : World) : KpB n₀ Bs W W := ⟨Below.refl _ _, rfl⟩
theorem KpB.trans {n₀ Bs : Nat} {A B C : World} (h : KpB n₀ Bs A B) (g : KpB n₀ Bs B C) : KpB n₀ Bs A C := ⟨h.low.trans g.low, g.box.trans h.box⟩
theorem KpB.turn {n₀ Bs : Nat} {w : World} (hn : n₀ ≤ w.heap.size) (hB : Bs < w.heap.size) (W : World) (l : Nat) (o o' : Obj) (hl : w.heap.size ≤ l) (ho : W.heap[l]? = some o) (h1 : o.isCells = false) (h2 : o.isWalk = false) : KpB n₀ Bs W (W.putObj l o') :=
  ⟨belowK_b hn W l o o' hl ho h1 h2, (grownBy_putObj' W l o').block Bs (by have := (Array.getElem?_eq_some_iff.1 ho).1; omega) (fun e => by injection e with e; omega)⟩
theorem KpB.cell {n₀ Bs : Nat} {W W' : World} (h : KpB n₀ Bs W W') : W'.cell? ⟨Bs, 0, none⟩ = W.cell? ⟨Bs, 0, none⟩ := World.cell?_of_block (w := W) h.box

set_option maxRecDepth 100000 in
set_option maxHeartbeats 2000000 in
theorem back1_in (F : Fence) (n : Nat) (h7 : F.fn 90) (hro : F.round = none) (hn : 1 ≤ n) (l Bs n₀ : Nat) (A : Option Addr) (L : List Nat) (cap : Nat) (hreach : L.length ≤ 1099511627776) (J Jx : List (Fin L.length) → World → Prop)
    (hY : ∀ pre x W, J pre W → pre.length < L.length → YieldAt F (n - 1) Tryd.prog l #[.int .i64 (x.1 : Int), .int .i64 (nthN L x.1 : Int)] W fun e W' =>
      (e = .returned (.bool true) ∧ J (pre ++ [x]) W' ∧ KpB n₀ Bs W W') ∨ (e = .returned (.bool false) ∧ Jx (pre ++ [x]) W'))
    (W : World) (hBs : W.cell? ⟨Bs, 0, none⟩ = some (.slice A L.length cap)) (hc : NatsLow n₀ W A L) (h0 : J [] W) :
    CallsIn F n Tryd.prog 90 #[.func (.yield l) #[] #[], .pointer (some ⟨Bs, 0, none⟩)] W fun e W' => (∃ v, e = .returned v) ∧
      ((∃ ys, ys = dnF L.length L.length (Nat.le_refl _) ∧ J ys W') ∨ (∃ pre, (∃ k h, pre = dnF L.length k h) ∧ Jx pre W')) := by
  refine callsIn_of_wp Tryd.func90 rfl h7 ?_ hro
  simp only [Tryd.ntmps90, List.size_toArray, List.length_cons, List.length_nil, Nat.reduceAdd, Nat.reduceSub, Array.replicate_succ, Array.replicate_zero, List.push_toArray, List.append_toArray, List.nil_append, List.cons_append]
  gi_wp2
  gi_loopw [3] (fun i wr => ∃ (k : Nat) (hk : k ≤ L.length), i = .int .i64 ((L.length : Int) - 1 - (k : Int)) ∧ J (dnF L.length k hk) wr ∧ KpB n₀ Bs W wr)
    (fun i _ => (intOf i + 1).toNat)
  case atStart => exact ⟨0, Nat.zero_le _, by simp, h0, KpB.refl _ _ _⟩
  case round =>
    obtain ⟨k, hk, rfl, hJs, hnx⟩ := hrel
    have hB' : wr.cell? ⟨Bs, 0, none⟩ = some (.slice A L.length cap) := hnx.cell.trans hBs
    by_cases hlt : k < L.length
    · obtain ⟨b, off, rfl, hb, hcell⟩ := (hc.below hnx.low) (L.length - 1 - k) (by omega)
      obtain ⟨m, hm⟩ : ∃ m, m = L.length - 1 - k := ⟨_, rfl⟩
      have hmi : (L.length : Int) - 1 - (k : Int) = (m : Int) := by omega
      have hml : m < L.length := by omega
      obtain ⟨fn, tmps, assign, body, hy, hR⟩ := hY _ ⟨m, hml⟩ wr hJs (by rw [dnF_len]; exact hlt)
      dsimp only at hy
      rw [hmi]
      rw [← hm] at hcell
      have HM := Lib.hid hm
      have HJ := Lib.hid hmi
      clear hm hmi
      gi_wp2
      refine hR.mono ?_
      rintro e W3 (⟨rfl, hJ3, hk3⟩ | ⟨rfl, hJx3⟩)
      · gi_wp2
        go_roundw
        case rel => exact ⟨k + 1, by omega, by have := HJ.out; congr 1; omega, by have hJ3' := hJ3; simp only [HM.out] at hJ3'; exact hJ3', hnx.trans hk3⟩
        case measure => (simp [intOf]; try omega)
      · gi_wp2
        refine bodyPost_ret (results_none rfl _ _ _) rfl ?_
        exact ⟨⟨_, rfl⟩, .inr ⟨dnF L.length (k + 1) (by omega), ⟨k + 1, by omega, rfl⟩, by have hJ3' := hJx3; simp only [HM.out] at hJ3'; exact hJ3'⟩⟩
    · obtain rfl : k = L.length := by omega
      have hmi : (L.length : Int) - 1 - (L.length : Int) = -1 := by omega
      rw [hmi]
      gi_wp2
      go_end0
      exact ⟨⟨_, rfl⟩, .inl ⟨_, rfl, hJs⟩⟩

theorem back_in (F : Fence) (n : Nat) (h6 : F.fn 82) (hro : F.round = none) (a : Option Addr) (len cap : Nat) (w : World) :
    CallsIn F n Tryd.prog 82 #[.slice a len cap] w fun e w' => e = .returned (.func (.func 90) #[] #[.pointer (some ⟨w.heap.size, 0, none⟩)]) ∧ w' = w.alloc (.cells #[.slice a len cap] 22) := by
  refine callsIn_of_wp Tryd.func82 rfl h6 ?_ hro
  simp only [Tryd.ntmps82, List.size_toArray, List.length_cons, List.length_nil, Nat.reduceAdd, Nat.reduceSub, Array.replicate_succ, Array.replicate_zero, List.push_toArray, List.append_toArray, List.nil_append, List.cons_append]
  gi_wp2
  go_ret
  exact ⟨rfl, rfl⟩
theorem back_stops (F : Fence) (n : Nat) (h8 : F.fn 90) (hro : F.round = none) (hn : 1 ≤ n) (Bs n₀ : Nat) (A : Option Addr) (L : List Nat) (cap : Nat) (hreach : L.length ≤ 1099511627776) (w : World) (hBs : Bs < w.heap.size) (hn₀ : n₀ ≤ w.heap.size)
    (hc : w.cell? ⟨Bs, 0, none⟩ = some (.slice A L.length cap)) (hI : NatsLow n₀ w A L) :
    SeqStopsK F n Tryd.prog 90 #[.pointer (some ⟨Bs, 0, none⟩)] (fun x : Fin L.length => #[Value.int .i64 (x.1 : Int), Value.int .i64 (nthN L x.1 : Int)]) (KpB n₀ Bs) (fun ys => ys = dnF L.length L.length (Nat.le_refl _))
      (fun pre => ∃ k h, pre = dnF L.length k h) L.length w := fun l J Jx W hW _ _ hY h0 => by
  have hc' := (hW.cell (p := ⟨Bs, 0, none⟩) hBs).trans hc
  exact back1_in F n h8 hro hn l Bs n₀ A L cap hreach J Jx hY W hc' (hI.below (hW.mono hn₀)) h0

/-- The value of the last k coefficients. -/
def evD (p : Nat) (L : List Nat) (x k : Nat) : Nat := evN p (L.drop (L.length - k)) x
theorem evD_zero (p : Nat) (L : List Nat) (x : Nat) : evD p L x 0 = 0 := by unfold evD; rw [Nat.sub_zero, List.drop_length]; rfl
theorem evD_succ (p : Nat) (L : List Nat) (x k : Nat) (h : k < L.length) : evD p L x (k + 1) = fadd p (fmul p (evD p L x k) x) (nthN L (L.length - 1 - k)) := by
  unfold evD
  rw [show L.length - (k + 1) = L.length - 1 - k by omega, List.drop_eq_getElem_cons (show L.length - 1 - k < L.length by omega), ← nthN_eq, show L.length - 1 - k + 1 = L.length - k by omega]
  rfl
theorem evD_all (p : Nat) (L : List Nat) (x : Nat) : evD p L x L.length = evN p L x := by unfold evD; rw [Nat.sub_self]; rfl
theorem evD_lt {p : Nat} (hp : 1 ≤ p) (L : List Nat) (x k : Nat) : evD p L x k < p := evN_lt hp _ _
/-- The value as the rounds make it. -/
def evP (p : Nat) (L : List Nat) (x : Nat) (pre : List (Fin L.length)) : Nat := pre.foldl (fun v i => fadd p (fmul p v x) (nthN L i.1)) 0
theorem evP_snoc (p : Nat) (L : List Nat) (x : Nat) (pre : List (Fin L.length)) (i : Fin L.length) : evP p L x (pre ++ [i]) = fadd p (fmul p (evP p L x pre) x) (nthN L i.1) := by simp [evP]
theorem evP_dn (p : Nat) (L : List Nat) (x : Nat) : ∀ (k : Nat) (h : k ≤ L.length), evP p L x (dnF L.length k h) = evD p L x k
  | 0, _ => (evD_zero p L x).symm
  | k + 1, h => by
    show evP p L x (dnF L.length k _ ++ [_]) = _
    rw [evP_snoc, evP_dn p L x k, evD_succ p L x k (by omega)]
theorem evP_all (p : Nat) (L : List Nat) (x : Nat) : evP p L x (dnF L.length L.length (Nat.le_refl _)) = evN p L x := by rw [evP_dn, evD_all]
theorem evP_lt {p : Nat} (hp : 1 ≤ p) (L : List Nat) (x : Nat) (pre : List (Fin L.length)) : evP p L x pre < p := by
  rcases List.eq_nil_or_concat pre with h | ⟨q, i, h⟩
  · subst h; exact hp
  · subst h; rw [List.concat_eq_append, evP_snoc]; exact fadd_lt hp _ _
end Go.Proofs.YtkjpnhhkebbmdaaDoor
