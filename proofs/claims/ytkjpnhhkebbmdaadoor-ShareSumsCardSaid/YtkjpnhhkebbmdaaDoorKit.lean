/-
  What the statements' own small functions do: Mod, Light, Roll, Next, Same; slices that read as lists of numbers; dice.
-/
import Derived.Test.YtkjpnhhkebbmdaaDoorBase
namespace Go.Proofs.YtkjpnhhkebbmdaaDoor
open Go.RowKit

theorem info_int : (Tryd.prog.info? 3).map (fun i => (i.zero, i.size, i.bytes)) = some (some (.int .i64 0), 1, 8) := by kernel_rfl

/-- Number k of a list (0 behind its end). -/
def nth (L : List Int) (k : Nat) : Int := L.getD k 0
theorem nth_eq {L : List Int} {k : Nat} (h : k < L.length) : nth L k = L[k] := by simp [nth, List.getD_eq_getElem?_getD, h]
/-- The address A leads to the numbers L. -/
def IntsAt (w : World) (A : Option Addr) (L : List Int) : Prop :=
  ∀ k, k < L.length → ∃ b off, A = some ⟨b, off, none⟩ ∧ b < w.heap.size ∧ w.cell? ⟨b, off + k, none⟩ = some (.int .i64 (nth L k))
theorem IntsAt.nil (w : World) (A : Option Addr) : IntsAt w A [] := fun k h => absurd h (by simp)
theorem IntsAt.below {w w' : World} {A : Option Addr} {L : List Int} (h : IntsAt w A L) (hb : Below w.heap.size w w') : IntsAt w' A L := fun k hk => by
  obtain ⟨b, off, hA, hlt, hc⟩ := h k hk
  exact ⟨b, off, hA, Nat.lt_of_lt_of_le hlt hb.size, (hb.cell hlt).trans hc⟩
theorem IntsAt.drew {w : World} {A : Option Addr} {L : List Int} (h : IntsAt w A L) (n : Nat) : IntsAt (w.drewN n) A L := h
theorem IntsAt.of_own {w : World} {base : Nat} {v : Value} {L : List Int} {n : Nat} (h : w.ownsRow base 3 1 v n (L.map (Value.int .i64))) (hn : n = L.length) : ∃ A c, v = .slice A L.length c ∧ IntsAt w A L := by
  subst hn
  rcases h.2 with ⟨rfl, h0⟩ | ⟨g, cap, cur, rfl, hg, hh, hnc, hcm, hcs, htk⟩
  · have : L = [] := List.eq_nil_of_length_eq_zero h0
    subst this
    exact ⟨none, 0, rfl, IntsAt.nil _ _⟩
  · refine ⟨some ⟨g, 0, none⟩, cap, rfl, fun k hk => ⟨g, 0, rfl, ?_, ?_⟩⟩
    · rcases Nat.lt_or_ge g w.heap.size with hlt | hge
      · exact hlt
      · rw [Array.getElem?_eq_none hge] at hh; cases hh
    · have := h.cellAt (j := k) (by omega)
      rw [Nat.zero_add, this, List.getElem?_map, nth_eq hk, List.getElem?_eq_getElem hk]
      rfl
theorem IntsAt.len_le {w : World} {base : Nat} {A : Option Addr} {n c : Nat} {xs : List Value} {e : TypeId} (h : w.ownsRow base e 1 (.slice A n c) n xs) : n ≤ maxLen := by
  rcases h.2 with ⟨_, h0⟩ | ⟨g, cap, cur, _, hg, hh, hnc, hcm, hcs, htk⟩
  · omega
  · omega

def modI (n m : Int) : Int := if m < 1 then 0 else n % m
theorem modI_lt (n m : Int) (h : m < 1) : modI n m = 0 := if_pos h
theorem modI_ge (n m : Int) (h : ¬ m < 1) : modI n m = n % m := if_neg h
theorem modI_range (n m : Int) (h : 1 ≤ m) : 0 ≤ modI n m ∧ modI n m < m := by
  rw [modI_ge n m (by omega)]; exact ⟨Int.emod_nonneg _ (by omega), Int.emod_lt_of_pos _ (by omega)⟩
theorem modI_tmod (n m : Int) (h : ¬ m < 1) : n.tmod m % m = modI n m := by
  rw [modI_ge n m h, Int.tmod_def, Int.sub_mul_emod_self_left]
def nextV (R : List Int) (n : Int) : Int := match R with | [] => 0 | x :: _ => modI x n
theorem nextV_range (R : List Int) (n : Int) (h : 1 ≤ n) : 0 ≤ nextV R n ∧ nextV R n < n := by
  cases R with
  | nil => exact ⟨Int.le_refl _, by simp [nextV]; omega⟩
  | cons x R => exact modI_range x n h

set_option maxHeartbeats 400000 in
theorem mod_any (n m : Int) (w : World) (hm : m ≤ 4611686018427387904) :
    Calls Tryd.prog 25 #[.int .i64 n, .int .i64 m] w (Ret (.int .i64 (modI n m)) w) := by
  by_cases h : m < 1
  · go_enter Tryd.func25, Tryd.ntmps25
    go_wp2
    go_ret
    exact Ret.int (modI_lt n m h).symm
  · have h1 := Int.tmod_lt_of_pos n (b := m) (by omega)
    have h2 := Int.lt_tmod_of_pos n (b := m) (by omega)
    have HE := Lib.hid (modI_tmod n m h)
    go_enter Tryd.func25, Tryd.ntmps25
    go_wp2
    go_ret
    exact Ret.int HE.out

set_option maxHeartbeats 400000 in
theorem light_any (A : Option Addr) (n c : Nat) (w : World) :
    Calls Tryd.prog 10 #[.slice A n c] w (Ret (.bool (decide ((n : Int) ≤ 500))) w) := by
  go_enter Tryd.func10, Tryd.ntmps10
  go_wp2
  go_ret
  exact Ret.bool rfl

/-- Block D is dice that have the numbers R still to give; what they were made of lies before them. -/
def DiceAt (w : World) (D : Nat) (R : List Int) : Prop :=
  ∃ (A : Option Addr) (c : Nat) (L : List Int) (i : Nat), w.heap[D]? = some (.cells #[.slice A L.length c, .int .i64 i] 69 (0, 0)) ∧ i ≤ L.length ∧ L.length ≤ maxLen ∧ R = L.drop i ∧
    ∀ k, k < L.length → ∃ b off, A = some ⟨b, off, none⟩ ∧ b < D ∧ w.cell? ⟨b, off + k, none⟩ = some (.int .i64 (nth L k))
theorem DiceAt.lt {w : World} {D : Nat} {R : List Int} (h : DiceAt w D R) : D < w.heap.size := by
  obtain ⟨A, c, L, i, hD, _⟩ := h
  rcases Nat.lt_or_ge D w.heap.size with hlt | hge
  · exact hlt
  · rw [Array.getElem?_eq_none hge] at hD; cases hD
/-- Dice stand where nothing up to them has turned. -/
theorem DiceAt.keep {w w' : World} {D : Nat} {R : List Int} (h : DiceAt w D R) (hb : ∀ k, k ≤ D → w'.heap[k]? = w.heap[k]?) : DiceAt w' D R := by
  obtain ⟨A, c, L, i, hD, hi, hl, hR, hc⟩ := h
  refine ⟨A, c, L, i, (hb D (Nat.le_refl _)).trans hD, hi, hl, hR, fun k hk => ?_⟩
  obtain ⟨b, off, hA, hbl, hcell⟩ := hc k hk
  exact ⟨b, off, hA, hbl, (World.cell?_of_block (w := w) (hb b (Nat.le_of_lt hbl))).trans hcell⟩
theorem DiceAt.below {w w' : World} {D : Nat} {R : List Int} (h : DiceAt w D R) (hb : Below w.heap.size w w') : DiceAt w' D R := by
  have hlt := h.lt
  exact h.keep fun k hk => hb.block k (by omega)
theorem DiceAt.setCell {w : World} {D : Nat} {R : List Int} (h : DiceAt w D R) (p : Addr) (v : Value) (hp : D < p.block) : DiceAt (w.setCell p v) D R :=
  h.keep fun k hk => Below.heap_setCell w p v k (by omega)
theorem DiceAt.drewN {w : World} {D : Nat} {R : List Int} (h : DiceAt w D R) (n : Nat) : DiceAt (w.drewN n) D R := h

set_option maxHeartbeats 400000 in
theorem roll_any (A : Option Addr) (L : List Int) (c : Nat) (w : World) (hl : L.length ≤ maxLen) (h : IntsAt w A L) :
    Calls Tryd.prog 12 #[.slice A L.length c] w
      (fun e w' => ∃ D, e = .returned (.pointer (some ⟨D, 0, none⟩)) ∧ w.heap.size ≤ D ∧ DiceAt w' D L ∧ Below w.heap.size w w') := by
  go_enter Tryd.func12, Tryd.ntmps12
  go_wp2
  go_ret
  refine ⟨_, rfl, Nat.le_refl _, ⟨A, c, L, 0, ?_, Nat.zero_le _, hl, rfl, fun k hk => ?_⟩, (Below.refl _ _).alloc (Nat.le_refl _) _⟩
  · exact heap_alloc_new w _
  · obtain ⟨b, off, hA, hlt, hc⟩ := h k hk
    refine ⟨b, off, hA, hlt, ?_⟩
    rw [World.cell?_alloc_past _ _ _ hlt]; exact hc

/-- What dice leave of memory: their own block alone turns, and new blocks come. -/
def NextP (D : Nat) (x : Int) (R : List Int) (w : World) (e : Ending) (w' : World) : Prop := e = .returned (.int .i64 x) ∧ DiceAt w' D R ∧ w.grownBy w' (some D)

theorem nextV_drop {L : List Int} {i : Nat} (n : Int) (hk : i < L.length) : modI (nth L i) n = nextV (L.drop i) n := by
  rw [List.drop_eq_getElem_cons hk]; simp [nextV, nth_eq hk]
theorem dice_step {w : World} {D : Nat} {A : Option Addr} {c : Nat} {L : List Int} {i : Nat} {R : List Int} (n : Int) (a b : Nat)
    (hD : w.heap[D]? = some (.cells #[.slice A L.length c, .int .i64 i] 69 (0, 0))) (hk : i < L.length) (hl : L.length ≤ maxLen) (hR : R = L.drop i)
    (hc : ∀ k, k < L.length → ∃ b off, A = some ⟨b, off, none⟩ ∧ b < D ∧ w.cell? ⟨b, off + k, none⟩ = some (.int .i64 (nth L k))) :
    NextP D (nextV R n) R.tail w (.returned (.int .i64 (modI (nth L i) n))) (((w.drewN a).setCell ⟨D, 1, none⟩ (.int .i64 ((i : Int) + 1))).drewN b) := by
  subst hR
  refine ⟨by rw [nextV_drop n hk], ⟨A, c, L, i + 1, ?_, hk, hl, by simp, fun k hk => ?_⟩, ⟨rfl, rfl, rfl, by simp [World.setCell], fun k hk hne => ?_⟩⟩
  · simp [World.setCell, Array.getElem?_modify, hD]
  · obtain ⟨b', off, hA, hlt, hcell⟩ := hc k hk
    refine ⟨b', off, hA, hlt, ?_⟩
    rw [World.cell?_drewN, World.cell?_setCell_other _ _ _ _ (fun e => by injection e with e1; omega)]
    exact hcell
  · exact Below.heap_setCell (w.drewN a) ⟨D, 1, none⟩ _ k (fun e => hne (by rw [e]))

set_option maxHeartbeats 400000 in
theorem next_any (D : Nat) (R : List Int) (n : Int) (w : World) (h : DiceAt w D R) (hn : n ≤ 4611686018427387904) :
    Calls Tryd.prog 17 #[.pointer (some ⟨D, 0, none⟩), .int .i64 n] w (NextP D (nextV R n) R.tail w) := by
  have hlt := h.lt
  obtain ⟨A, c, L, i, hD, hi, hl, hR, hc⟩ := h
  unfold maxLen at hl
  have c0 := cell_of_row w D 0 _ _ (0, 0) hD
  have c1 := cell_of_row w D 1 _ _ (0, 0) hD
  have f1 : w.frozen? ⟨D, 1, none⟩ = false := by simp [World.frozen?, hD]
  simp at c0 c1
  by_cases hk : i < L.length
  · obtain ⟨b, off, rfl, hbl, hcell⟩ := hc i hk
    have HS := Lib.hid (fun a b => dice_step (R := R) n a b hD hk hl hR hc)
    clear hD hR hc
    go_enter Tryd.func17, Tryd.ntmps17
    go_wp2
    go_quiet (fail)
    go_wp2
    have hne' : ¬ (⟨D, 1, none⟩ : Addr) = ⟨b, off + i, none⟩ := fun e => by injection e with e1; omega
    have hcell' : ((w.drewN nq).setCell ⟨D, 1, none⟩ (.int .i64 ((i : Int) + 1))).cell? ⟨b, off + i, none⟩ = some (.int .i64 (nth L i)) := by
      rw [World.cell?_setCell_other _ _ _ _ hne']; exact hcell
    go_quiet ((go_at_call 25; exact Calls.quiet_of_same (mod_any _ _ _ hn)))
    go_wp2
    go_ret
    exact HS.out _ _
  · have HS : Hid (∀ a, NextP D (nextV R n) R.tail w (.returned (.int .i64 0)) (w.drewN a)) := fun a => by
      have hn : R = [] := by rw [hR, List.drop_eq_nil_of_le (by omega)]
      subst hn
      refine ⟨rfl, ?_, ⟨rfl, rfl, rfl, Nat.le_refl _, fun _ _ _ => rfl⟩⟩
      exact ⟨A, c, L, i, hD, hi, hl, by simpa using hR, hc⟩
    clear hD hR hc
    go_enter Tryd.func17, Tryd.ntmps17
    go_wp2
    go_quiet (fail)
    go_wp2
    go_ret
    exact HS.out _

def sameL (L M : List Int) : Bool := decide (L = M)
theorem sameL_len {L M : List Int} (h : L.length ≠ M.length) : false = sameL L M := by
  simp only [sameL]; exact (decide_eq_false (fun e => h (by rw [e]))).symm
theorem sameL_at {L M : List Int} (k : Nat) (h : nth L k ≠ nth M k) : false = sameL L M := by
  simp only [sameL]; exact (decide_eq_false (fun e => h (by rw [e]))).symm
theorem sameL_all {L M : List Int} (hl : L.length = M.length) (h : L.take L.length = M.take L.length) : true = sameL L M := by
  simp only [sameL]; refine (decide_eq_true ?_).symm
  rw [List.take_length, hl, List.take_length] at h; exact h
theorem take_snoc_getD (L : List Int) (k : Nat) (h : k < L.length) : L.take (k + 1) = L.take k ++ [nth L k] := by
  rw [List.take_succ_eq_append_getElem h, nth_eq h]

set_option maxHeartbeats 400000 in
theorem same_any (A A' : Option Addr) (L M : List Int) (c c' : Nat) (w : World) (hL : IntsAt w A L) (hM : IntsAt w A' M) (hl : L.length ≤ 1152921504606846976) :
    Calls Tryd.prog 28 #[.slice A L.length c, .slice A' M.length c'] w (Ret (.bool (sameL L M)) w) := by
  by_cases hlen : L.length = M.length
  · have HL := Lib.hid hlen
    have hlM : M.length ≤ L.length := by omega
    have hlM' : L.length ≤ M.length := by omega
    have heq : ((L.length : Int) != (M.length : Int)) = false := by simp [hlen]
    clear hlen
    go_enter Tryd.func28, Tryd.ntmps28
    go_wp2
    go_loop [14] (fun j => ∃ k : Nat, k ≤ L.length ∧ j = .int .i64 k ∧ L.take k = M.take k) (fun j => L.length - (intOf j).toNat)
    case atStart => exact ⟨0, Nat.zero_le _, rfl, rfl⟩
    case round =>
      obtain ⟨k, hk, rfl, hpre⟩ := hrel
      have HP := Lib.hid hpre
      clear hpre
      by_cases hlt : k < L.length
      · obtain ⟨b, off, rfl, _, hcell⟩ := hL k hlt
        obtain ⟨b', off', rfl, _, hcell'⟩ := hM k (by omega)
        by_cases hx : nth L k = nth M k
        · have hx' : (nth M k != nth L k) = false := by simp [hx]
          have HX := Lib.hid hx
          clear hx hL hM
          go_wp2
          go_round
          case rel => exact ⟨k + 1, by omega, by go_num, by rw [take_snoc_getD L k hlt, take_snoc_getD M k (by omega), HP.out, HX.out]⟩
          case measure => simp [intOf]; omega
        · have hx' : (nth M k != nth L k) = true := by simp; exact fun e => hx e.symm
          have HX := Lib.hid hx
          clear hx hL hM
          go_wp2
          go_ret
          exact Ret.bool (sameL_at k HX.out)
      · go_wp2
        go_ret
        refine Ret.bool (sameL_all HL.out ?_)
        have := HP.out
        rw [show L.length = k by omega]; exact this
  · have heq : ((L.length : Int) != (M.length : Int)) = true := by simp; omega
    go_enter Tryd.func28, Tryd.ntmps28
    go_wp2
    go_ret
    exact Ret.bool (sameL_len hlen)
theorem same_refl (A A' : Option Addr) (L : List Int) (c c' : Nat) (w : World) (hL : IntsAt w A L) (hM : IntsAt w A' L) (hl : L.length ≤ 1152921504606846976) :
    Calls Tryd.prog 28 #[.slice A L.length c, .slice A' L.length c'] w (Ret (.bool true) w) := by
  have := same_any A A' L L c c' w hL hM hl
  rw [show sameL L L = true by simp [sameL]] at this; exact this
end Go.Proofs.YtkjpnhhkebbmdaaDoor
