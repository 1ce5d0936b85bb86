/-
  Shares: what lists of shares are in memory; plans; which lists are of elements.
-/
import Derived.Test.YtkjpnhhkebbmdaaDoorEnv
import Derived.Test.YtkjpnhhkebbmdaaDoorRefD2
import Derived.Test.YtkjpnhhkebbmdaaDoorPrimeV2
import Derived.Conc.MuLone
namespace Go.Proofs.YtkjpnhhkebbmdaaDoor
open Go.RowKit

theorem info_share : (Tryd.prog.info? 47).map (fun i => (i.zero, i.size, i.bytes)) = some (some (.agg #[.int .i64 0, .slice none 0 0]), 2, 32) := by kernel_rfl

/-! ### Lists of shares in memory -/
abbrev Shr := Int × List Int
def hS (S : List Shr) (k : Nat) : Int := (S.getD k (0, [])).1
def vS (S : List Shr) (k : Nat) : List Int := (S.getD k (0, [])).2
/-- What a slice may look like. -/
structure IOK (A : Option Addr) (c n : Nat) : Prop where
  len : n ≤ c
  cap : c ≤ maxLen
  nil : A = none → c = 0
  spot : n = 0 ∨ ∀ a, A = some a → a.spot = none
theorem IOK.none0 : IOK none 0 0 := ⟨Nat.le_refl _, Nat.zero_le _, fun _ => rfl, .inl rfl⟩
theorem SlOK.iok {A : Option Addr} {c : Nat} {L : List Nat} (h : SlOK A c L) : IOK A c L.length := ⟨h.len, h.cap, h.nil, .inr h.spot⟩
theorem IOK.take {A : Option Addr} {c n : Nat} (h : IOK A c n) (k : Nat) (hk : k ≤ n) : IOK A c k := ⟨Nat.le_trans hk h.len, h.cap, h.nil, h.spot.elim (fun e => .inl (by omega)) .inr⟩
/-- A slice of numbers; the blocks that it lies in satisfy P. -/
structure IntsP (P : Nat → Prop) (w : World) (A : Option Addr) (c : Nat) (L : List Int) : Prop where
  ints : IntsAt w A L
  ok : IOK A c L.length
  off : ∀ b off, A = some ⟨b, off, none⟩ → L.length = 0 ∨ P b
theorem IntsP.nil (P : Nat → Prop) (w : World) : IntsP P w none 0 [] := ⟨IntsAt.nil _ _, IOK.none0, fun b off e => by cases e⟩
/-- All blocks that satisfy P stand. -/
structure Kept (P : Nat → Prop) (w w' : World) : Prop where
  size : w.heap.size ≤ w'.heap.size
  block : ∀ b, P b → b < w.heap.size → w'.heap[b]? = w.heap[b]?
theorem Kept.below {P : Nat → Prop} {w w' : World} (hb : Below w.heap.size w w') : Kept P w w' := ⟨hb.size, fun b _ h => hb.block b h⟩
theorem Kept.mv {D : Nat} {w w' : World} (hg : w.grownBy w' (some D)) : Kept (· ≠ D) w w' := ⟨hg.size, fun b hb h => hg.block b h (fun e => by injection e with e; exact hb e)⟩
theorem Kept.app {B : Nat} {w w' : World} (hb : Below B w w') : Kept (· < B) w w' := ⟨hb.size, fun b h _ => hb.block b h⟩
theorem Kept.trans {P : Nat → Prop} {w w1 w2 : World} (h : Kept P w w1) (g : Kept P w1 w2) : Kept P w w2 := ⟨Nat.le_trans h.size g.size, fun b hP hb => (g.block b hP (Nat.lt_of_lt_of_le hb h.size)).trans (h.block b hP hb)⟩
theorem IntsAt.keep {P : Nat → Prop} {w w' : World} {A : Option Addr} {L : List Int} (h : IntsAt w A L) (hP : ∀ b off, A = some ⟨b, off, none⟩ → L.length = 0 ∨ P b) (hk : Kept P w w') : IntsAt w' A L := fun k hl => by
  obtain ⟨b, off, hA, hlt, hc⟩ := h k hl
  have hPb : P b := (hP b off hA).elim (fun e => by omega) id
  exact ⟨b, off, hA, Nat.lt_of_lt_of_le hlt hk.size, (World.cell?_of_block (w := w) (hk.block b hPb hlt)).trans hc⟩
theorem IntsP.keep {P : Nat → Prop} {w w' : World} {A : Option Addr} {c : Nat} {L : List Int} (h : IntsP P w A c L) (hk : Kept P w w') : IntsP P w' A c L := ⟨h.ints.keep h.off hk, h.ok, h.off⟩
theorem IntsP.mono {P Q : Nat → Prop} {w : World} {A : Option Addr} {c : Nat} {L : List Int} (h : IntsP P w A c L) (hPQ : ∀ b, b < w.heap.size → P b → Q b) : IntsP Q w A c L := ⟨h.ints, h.ok, fun b off e => by
  rcases h.off b off e with h0 | hP
  · exact .inl h0
  · rcases Nat.eq_zero_or_pos L.length with h0 | h0
    · exact .inl h0
    · obtain ⟨b', off', e', hlt, _⟩ := h.ints 0 h0
      rw [e] at e'; injection e' with e'; injection e' with e1; subst e1
      exact .inr (hPQ b hlt hP)⟩
theorem IntsAt.take {w : World} {A : Option Addr} {L : List Int} (h : IntsAt w A L) (k : Nat) : IntsAt w A (L.take k) := fun j hj => by
  have hj' : j < L.length := Nat.lt_of_lt_of_le hj (List.length_take_le' _ _)
  obtain ⟨b, off, hA, hb, hc⟩ := h j hj'
  exact ⟨b, off, hA, hb, by rw [hc, nth_eq hj', nth_eq hj]; simp⟩
theorem IntsAt.nats {w : World} {A : Option Addr} {L : List Nat} (h : IntsAt w A (ofN L)) : NatsAt w A L := fun k hk => by
  obtain ⟨b, off, hA, hb, hc⟩ := h k (by rw [len_ofN]; exact hk)
  exact ⟨b, off, hA, hb, by rw [hc, nth_ofN]⟩
/-- The address A leads to the shares S. -/
def ShAt (P : Nat → Prop) (w : World) (A : Option Addr) (S : List Shr) : Prop :=
  ∀ k, k < S.length → ∃ b off B c, A = some ⟨b, off, none⟩ ∧ b < w.heap.size ∧ P b ∧ w.cell? ⟨b, off + k * 2, none⟩ = some (.int .i64 (hS S k)) ∧
    w.cell? ⟨b, off + k * 2 + 1, none⟩ = some (.slice B (vS S k).length c) ∧ IntsP P w B c (vS S k)
structure ShP (P : Nat → Prop) (w : World) (A : Option Addr) (c : Nat) (S : List Shr) : Prop where
  at_ : ShAt P w A S
  ok : IOK A c S.length
theorem ShAt.keep {P : Nat → Prop} {w w' : World} {A : Option Addr} {S : List Shr} (h : ShAt P w A S) (hk : Kept P w w') : ShAt P w' A S := fun k hl => by
  obtain ⟨b, off, B, c, hA, hlt, hP, h1, h2, h3⟩ := h k hl
  exact ⟨b, off, B, c, hA, Nat.lt_of_lt_of_le hlt hk.size, hP, (World.cell?_of_block (w := w) (hk.block b hP hlt)).trans h1, (World.cell?_of_block (w := w) (hk.block b hP hlt)).trans h2, h3.keep hk⟩
theorem ShP.keep {P : Nat → Prop} {w w' : World} {A : Option Addr} {c : Nat} {S : List Shr} (h : ShP P w A c S) (hk : Kept P w w') : ShP P w' A c S := ⟨h.at_.keep hk, h.ok⟩
theorem ShP.below {P : Nat → Prop} {w w' : World} {A : Option Addr} {c : Nat} {S : List Shr} (h : ShP P w A c S) (hb : Below w.heap.size w w') : ShP P w' A c S := h.keep (Kept.below hb)
theorem ShP.mv {D : Nat} {w w' : World} {A : Option Addr} {c : Nat} {S : List Shr} (h : ShP (· ≠ D) w A c S) (hg : w.grownBy w' (some D)) : ShP (· ≠ D) w' A c S := h.keep (Kept.mv hg)
theorem ShP.mono {P Q : Nat → Prop} {w : World} {A : Option Addr} {c : Nat} {S : List Shr} (h : ShP P w A c S) (hPQ : ∀ b, b < w.heap.size → P b → Q b) : ShP Q w A c S := ⟨fun k hk => by
  obtain ⟨b, off, B, c, hA, hlt, hP, h1, h2, h3⟩ := h.at_ k hk
  exact ⟨b, off, B, c, hA, hlt, hPQ b hlt hP, h1, h2, h3.mono hPQ⟩, h.ok⟩
theorem ShP.any {P : Nat → Prop} {w : World} {A : Option Addr} {c : Nat} {S : List Shr} (h : ShP P w A c S) : ShP (fun _ => True) w A c S := h.mono fun _ _ _ => trivial
theorem ShP.nil (P : Nat → Prop) (w : World) : ShP P w none 0 [] := ⟨fun k h => absurd h (by simp), IOK.none0⟩
theorem hS_take {S : List Shr} {k j : Nat} (h : j < k) : hS (S.take k) j = hS S j := by simp [hS, List.getD_eq_getElem?_getD, h]
theorem vS_take {S : List Shr} {k j : Nat} (h : j < k) : vS (S.take k) j = vS S j := by simp [vS, List.getD_eq_getElem?_getD, h]
theorem ShP.take {P : Nat → Prop} {w : World} {A : Option Addr} {c : Nat} {S : List Shr} (h : ShP P w A c S) (k : Nat) : ShP P w A c (S.take k) := ⟨fun j hj => by
  have hl : (S.take k).length = min k S.length := List.length_take
  obtain ⟨b, off, B, c, hA, hlt, hP, h1, h2, h3⟩ := h.at_ j (by omega)
  refine ⟨b, off, B, c, hA, hlt, hP, ?_⟩
  rw [hS_take (by omega), vS_take (by omega)]
  exact ⟨h1, h2, h3⟩, h.ok.take _ (by rw [List.length_take]; omega)⟩
/-- The call returns a new list of shares. -/
def NewSh (S : List Shr) (w : World) (e : Ending) (w' : World) : Prop :=
  ∃ A c, e = .returned (.slice A S.length c) ∧ ShP (fun b => w.heap.size ≤ b) w' A c S ∧ Below w.heap.size w w'
def ShErr (S : List Shr) (er : Int) (w : World) (e : Ending) (w' : World) : Prop :=
  ∃ A c, e = .returned (.tuple #[.slice A S.length c, .int .i64 er]) ∧ ShP (fun b => w.heap.size ≤ b) w' A c S ∧ Below w.heap.size w w'
theorem ShErr.nil (er : Int) {w w' : World} (hb : Below w.heap.size w w') : ShErr [] er w (.returned (.tuple #[.slice none 0 0, .int .i64 er])) w' := ⟨none, 0, rfl, ShP.nil _ _, hb⟩

/-! ### Plans -/
theorem blk_lt {w : World} {x : Nat} {o : Obj} (h : w.heap[x]? = some o) : x < w.heap.size := by
  rcases Nat.lt_or_ge x w.heap.size with hlt | hge
  · exact hlt
  · rw [Array.getElem?_eq_none hge] at h; cases h
abbrev planV (p n h : Int) : Value := .agg #[.int .i64 p, .int .i64 n, .int .i64 h]
def PlanCell (w : World) (x : Nat) (p n h : Int) : Prop := w.heap[x]? = some (.cells #[.int .i64 p, .int .i64 n, .int .i64 h] 24 (0, 0))
theorem PlanCell.c0 {w : World} {x : Nat} {p n h : Int} (H : PlanCell w x p n h) : w.cell? ⟨x, 0, none⟩ = some (.int .i64 p) := by rw [cell_of_row w x 0 _ _ (0, 0) H]; rfl
theorem PlanCell.c1 {w : World} {x : Nat} {p n h : Int} (H : PlanCell w x p n h) : w.cell? ⟨x, 1, none⟩ = some (.int .i64 n) := by rw [cell_of_row w x 1 _ _ (0, 0) H]; rfl
theorem PlanCell.c2 {w : World} {x : Nat} {p n h : Int} (H : PlanCell w x p n h) : w.cell? ⟨x, 2, none⟩ = some (.int .i64 h) := by rw [cell_of_row w x 2 _ _ (0, 0) H]; rfl
theorem PlanCell.lt {w : World} {x : Nat} {p n h : Int} (H : PlanCell w x p n h) : x < w.heap.size := blk_lt H
theorem PlanCell.below {w w' : World} {x : Nat} {p n h : Int} (H : PlanCell w x p n h) (hb : Below w.heap.size w w') : PlanCell w' x p n h := (hb.block x (blk_lt H)).trans H
theorem PlanCell.keep {w w' : World} {x : Nat} {p n h : Int} (H : PlanCell w x p n h) (hb : w'.heap[x]? = w.heap[x]?) : PlanCell w' x p n h := hb.trans H
theorem PlanCell.new {w : World} {i : Nat} (p n h : Int) (hi : i = w.heap.size) : PlanCell (w.alloc (.cells #[.int .i64 p, .int .i64 n, .int .i64 h] 24)) i p n h := by subst hi; exact heap_alloc_new w _
theorem PlanCell.alloc {w : World} {i : Nat} {p n h : Int} (H : PlanCell w i p n h) (o : Obj) : PlanCell (w.alloc o) i p n h := H.below (below_alloc w o)

def PlanP (p n h : Int) : Prop := 1 ≤ n ∧ n ≤ h ∧ h ≤ 16 ∧ h < p ∧ validI p = true
instance (p n h : Int) : Decidable (PlanP p n h) := by unfold PlanP; exact inferInstance
def plB (p n h : Int) : Bool := decide (PlanP p n h)
theorem plB_no {p n h : Int} (H : ¬ PlanP p n h) : false = plB p n h := (decide_eq_false H).symm
theorem plB_yes {p n h : Int} (H : PlanP p n h) : true = plB p n h := (decide_eq_true H).symm
theorem plB_last {p n h : Int} (h1 : 1 ≤ n) (h2 : n ≤ h) (h3 : h ≤ 16) (h4 : h < p) : validI p = plB p n h := by
  unfold plB
  by_cases hv : validI p = true
  · rw [hv]; exact (decide_eq_true ⟨h1, h2, h3, h4, hv⟩).symm
  · rw [Bool.not_eq_true] at hv
    rw [hv]; exact (decide_eq_false (fun H => by have := H.2.2.2.2; rw [hv] at this; cases this)).symm
theorem plan_prime {p n h : Int} (H : PlanP p n h) (hv : primeV p = validI p) : ∃ q : Nat, p = (q : Int) ∧ PrimeN q ∧ q ≤ 1073741824 := by
  have h1 : primeV p = true := hv.trans H.2.2.2.2
  unfold primeV at h1
  have h2 := @of_decide_eq_true _ (Classical.propDecidable _) h1
  obtain ⟨a, b, c, d, -⟩ := H
  exact ⟨p.toNat, by omega, h2.2, by omega⟩

set_option maxRecDepth 100000 in
set_option maxHeartbeats 1000000 in
theorem valid_plan (p n h : Int) (w : World) (hB : Bases w) : Calls Tryd.prog 18 #[planV p n h] w (RetB (.bool (plB p n h)) w) := by
  have HB := Lib.hid hB
  clear hB
  by_cases h1 : 1 ≤ n
  · by_cases h2 : n ≤ h
    · by_cases h3 : h ≤ 16
      · by_cases h4 : h < p
        · have HV := Lib.hid (plB_last h1 h2 h3 h4)
          go_enter Tryd.func18, Tryd.ntmps18
          go_wp2_with fail
          refine ret_pure (valid_any p _ (HB.out.keep (below_alloc _ _))) ?_
          go_wp2_with fail
          go_ret
          exact RetB.bool HV.out (below_alloc _ _)
        · have HV := Lib.hid (plB_no (fun H : PlanP p n h => h4 H.2.2.2.1))
          go_enter Tryd.func18, Tryd.ntmps18
          go_wp2_with fail
          go_ret
          exact RetB.bool HV.out (below_alloc _ _)
      · have HV := Lib.hid (plB_no (fun H : PlanP p n h => h3 H.2.2.1))
        go_enter Tryd.func18, Tryd.ntmps18
        go_wp2_with fail
        go_ret
        exact RetB.bool HV.out (below_alloc _ _)
    · have HV := Lib.hid (plB_no (fun H : PlanP p n h => h2 H.2.1))
      go_enter Tryd.func18, Tryd.ntmps18
      go_wp2_with fail
      go_ret
      exact RetB.bool HV.out (below_alloc _ _)
  · have HV := Lib.hid (plB_no (fun H : PlanP p n h => h1 H.1))
    go_enter Tryd.func18, Tryd.ntmps18
    go_wp2_with fail
    go_ret
    exact RetB.bool HV.out (below_alloc _ _)

theorem plB_bad {p n h : Int} (H : validI p = false) : false = plB p n h := plB_no (fun g => by have := g.2.2.2.2; rw [H] at this; cases this)
set_option maxRecDepth 100000 in
set_option maxHeartbeats 1000000 in
theorem refValid_plan (p n h : Int) (w : World) (hv : primeV p = validI p) : Calls Tryd.prog 19 #[planV p n h] w (RetB (.bool (plB p n h)) w) := by
  have hc := fun w => refValid_any p w
  rw [hv] at hc
  have HC := Lib.hid hc
  clear hc hv
  cases hq : validI p with
  | false =>
    have HV := Lib.hid (plB_bad (n := n) (h := h) hq)
    have HQ := Lib.hid hq
    clear hq
    go_enter Tryd.func19, Tryd.ntmps19
    go_wp2_with fail
    refine ret_pure (HC.out _) ?_
    rw [HQ.out]
    go_wp2_with fail
    go_ret
    exact RetB.bool HV.out (below_alloc _ _)
  | true =>
    have HQ := Lib.hid hq
    clear hq
    by_cases h1 : 1 ≤ n
    · by_cases h2 : n ≤ h
      · by_cases h3 : h ≤ 16
        · have HV := Lib.hid (show decide (h < p) = plB p n h from by
            by_cases h4 : h < p
            · rw [decide_eq_true h4, ← plB_last h1 h2 h3 h4]; exact HQ.out.symm
            · rw [decide_eq_false h4]; exact plB_no (fun H => h4 H.2.2.2.1))
          go_enter Tryd.func19, Tryd.ntmps19
          go_wp2_with fail
          refine ret_pure (HC.out _) ?_
          rw [HQ.out]
          go_wp2_with fail
          go_ret
          exact RetB.bool HV.out (below_alloc _ _)
        · have HV := Lib.hid (plB_no (fun H : PlanP p n h => h3 H.2.2.1))
          go_enter Tryd.func19, Tryd.ntmps19
          go_wp2_with fail
          refine ret_pure (HC.out _) ?_
          rw [HQ.out]
          go_wp2_with fail
          go_ret
          exact RetB.bool HV.out (below_alloc _ _)
      · have HV := Lib.hid (plB_no (fun H : PlanP p n h => h2 H.2.1))
        go_enter Tryd.func19, Tryd.ntmps19
        go_wp2_with fail
        refine ret_pure (HC.out _) ?_
        rw [HQ.out]
        go_wp2_with fail
        go_ret
        exact RetB.bool HV.out (below_alloc _ _)
    · have HV := Lib.hid (plB_no (fun H : PlanP p n h => h1 H.1))
      go_enter Tryd.func19, Tryd.ntmps19
      go_wp2_with fail
      refine ret_pure (HC.out _) ?_
      rw [HQ.out]
      go_wp2_with fail
      go_ret
      exact RetB.bool HV.out (below_alloc _ _)

/-! ### Lists of elements -/
theorem enter_elem (args : Array Value) (w : World) : (callFunc 66 args).run Tryd.prog w = .ok (.enter 66 args) w :=
  MuLone.run_callFunc_enter Tryd.func66 (by kernel_rfl) rfl args w
def outB (p n : Int) : Bool := decide (n < 0) || decide (p ≤ n)
theorem outB_lt {p n : Int} (h : n < 0) : true = outB p n := by unfold outB; rw [decide_eq_true h]; rfl
theorem outB_ge {p n : Int} (h : ¬ n < 0) : decide (p ≤ n) = outB p n := by unfold outB; rw [decide_eq_false h]; rfl
set_option maxHeartbeats 400000 in
theorem elemC_any (x : Nat) (p nd h n : Int) (w : World) (hx : PlanCell w x p nd h) : Calls Tryd.prog 66 #[.int .i64 n, .pointer (some ⟨x, 0, none⟩)] w (RetB (.bool (outB p n)) w) := by
  have hc := hx.c0
  clear hx
  by_cases h1 : n < 0
  · have HV := Lib.hid (outB_lt (p := p) h1)
    go_enter Tryd.func66, Tryd.ntmps66
    go_wp2_with fail
    go_ret
    exact RetB.bool HV.out (Below.refl _ _)
  · have HV := Lib.hid (outB_ge (p := p) h1)
    go_enter Tryd.func66, Tryd.ntmps66
    go_wp2_with fail
    go_ret
    exact RetB.bool HV.out (Below.refl _ _)

def IxI (T : Int → Bool) (L : List Int) (i : Int) : Prop := (i = -1 ∧ ∀ j, j < L.length → T (nth L j) = false) ∨ ∃ k : Nat, i = k ∧ k < L.length ∧ T (nth L k) = true
set_option maxHeartbeats 1000000 in
theorem indexInts_any (n : Nat) (us : Array Value) (T : Int → Bool) (B : Option Addr) (L : List Int) (cap : Nat) (w : World) (hI : IntsAt w B L) (hl : L.length ≤ 1099511627776) (hn : ∀ args w, (callFunc n args).run Tryd.prog w = .ok (.enter n args) w)
    (hT : ∀ w', Below w.heap.size w w' → ∀ k, k < L.length → Calls Tryd.prog n (#[.int .i64 (nth L k)] ++ us) w' (RetB (.bool (T (nth L k))) w')) :
    Calls Tryd.prog 81 #[.slice B L.length cap, .func (.func n) #[] us] w (fun e w' => ∃ i : Int, e = .returned (.int .i64 i) ∧ IxI T L i ∧ Below w.heap.size w w') := by
  have HS := Lib.hid hI
  have HT := Lib.hid hT
  clear hI hT
  go_enter Tryd.func81, Tryd.ntmps81
  go_wp2_with fail
  go_loopw [8] (fun i wr => ∃ k : Nat, k ≤ L.length ∧ i = .int .i64 k ∧ (∀ j, j < k → T (nth L j) = false) ∧ Below w.heap.size w wr) (fun i _ => L.length - (intOf i).toNat)
  case atStart => exact ⟨0, Nat.zero_le _, rfl, fun j hj => absurd hj (by omega), Below.refl _ _⟩
  case round =>
    obtain ⟨k, hk, rfl, hpre, hbr⟩ := hrel
    have HP := Lib.hid hpre
    clear hpre
    by_cases hlt : k < L.length
    · obtain ⟨b, off, rfl, hbl, c1⟩ := HS.out k hlt
      have d1 := (hbr.cell hbl).trans c1
      have hbs := hbr.size
      clear c1
      go_wp2_with fail
      refine ret_below (HT.out _ hbr k hlt) fun w2 hb2 => ?_
      generalize hx : T (nth L k) = tv at *
      have HX := Lib.hid hx
      clear hx
      have hbw : Below w.heap.size w w2 := hbr.trans (hb2.mono hbs)
      cases tv with
      | true =>
        go_wp2_with fail
        go_ret
        exact ⟨_, rfl, .inr ⟨k, rfl, hlt, HX.out⟩, hbw⟩
      | false =>
        go_wp2_with fail
        go_roundw
        case rel =>
          refine ⟨k + 1, by omega, by go_num, fun j hj => ?_, hbw⟩
          by_cases hjk : j = k
          · subst hjk; exact HX.out
          · exact HP.out j (by omega)
        case measure => simp [intOf]; omega
    · go_wp2_with fail
      go_ret
      exact ⟨_, rfl, .inl ⟨rfl, fun j hj => HP.out j (by omega)⟩, hbr⟩
theorem ixI_any {T : Int → Bool} {L : List Int} {i : Int} (h : IxI T L i) : decide (0 ≤ i) = L.any T := by
  rcases h with ⟨rfl, h⟩ | ⟨k, rfl, hk, ht⟩
  · have : L.any T = false := by
      rw [List.any_eq_false]
      intro x hx
      obtain ⟨j, hj, rfl⟩ := List.getElem_of_mem hx
      have := h j hj
      rw [nth_eq hj] at this; simp [this]
    rw [this]; rfl
  · have : L.any T = true := by
      rw [List.any_eq_true]
      exact ⟨nth L k, by rw [nth_eq hk]; exact List.getElem_mem hk, ht⟩
    rw [this]; exact decide_eq_true (by omega)
set_option maxHeartbeats 400000 in
theorem containsInts_any (n : Nat) (us : Array Value) (T : Int → Bool) (B : Option Addr) (L : List Int) (cap : Nat) (w : World) (hI : IntsAt w B L) (hl : L.length ≤ 1099511627776) (hn : ∀ args w, (callFunc n args).run Tryd.prog w = .ok (.enter n args) w)
    (hT : ∀ w', Below w.heap.size w w' → ∀ k, k < L.length → Calls Tryd.prog n (#[.int .i64 (nth L k)] ++ us) w' (RetB (.bool (T (nth L k))) w')) :
    Calls Tryd.prog 65 #[.slice B L.length cap, .func (.func n) #[] us] w (RetB (.bool (L.any T)) w) := by
  have HC := Lib.hid (indexInts_any n us T B L cap w hI hl hn hT)
  clear hI hn hT
  go_enter Tryd.func65, Tryd.ntmps65
  go_wp2_with fail
  refine HC.out.mono ?_
  rintro e w1 ⟨i, rfl, hi, hb⟩
  have HI := Lib.hid (ixI_any hi)
  clear hi
  go_wp2_with fail
  go_ret
  exact RetB.bool HI.out hb
theorem any_out (p : Int) (L : List Int) : (!L.any (outB p)) = inside p L := by
  unfold inside
  induction L with
  | nil => rfl
  | cons x L ih =>
    simp only [List.any_cons, List.all_cons, Bool.not_or, ih]
    congr 1
    unfold outB
    rw [Bool.eq_iff_iff]; simp
set_option maxHeartbeats 400000 in
theorem elements_plan (p nd h : Int) (B : Option Addr) (L : List Int) (c : Nat) (w : World) (hI : IntsAt w B L) (hl : L.length ≤ 1099511627776) :
    Calls Tryd.prog 44 #[planV p nd h, .slice B L.length c] w (RetB (.bool (inside p L)) w) := by
  have HC := Lib.hid (containsInts_any 66 #[.pointer (some ⟨w.heap.size, 0, none⟩)] (outB p) B L c (w.alloc (.cells #[.int .i64 p, .int .i64 nd, .int .i64 h] 24)) (hI.below (below_alloc _ _)) hl enter_elem
    (fun w' hb k hk => elemC_any w.heap.size p nd h (nth L k) w' ((PlanCell.new p nd h rfl).below hb)))
  have HV := Lib.hid (any_out p L)
  clear hI
  go_enter Tryd.func44, Tryd.ntmps44
  go_wp2_with fail
  refine ret_below HC.out ?_
  intro w1 hb1
  go_wp2_with fail
  go_ret
  exact RetB.bool HV.out (below_trans (below_alloc _ _) hb1)
end Go.Proofs.YtkjpnhhkebbmdaaDoor
