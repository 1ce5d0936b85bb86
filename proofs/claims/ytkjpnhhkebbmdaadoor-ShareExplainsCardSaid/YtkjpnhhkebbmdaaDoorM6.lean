/-
  Shares: plans of dice; lists in another order.
  Shares that lie on polynomials: they are good, give the values at 0, and fit; dealt shares; the sanity check.
  Shares: what stands while dice are thrown.
  Shares: a plan of the statements, and shares of a secret as the calls make and take them.
  Shares: the sum of two, the product with an element.
  Shares: sums of shares are shares of sums; lists of shares under way whose values lie anywhere.
  Conditions: those that each theorem names.
-/
import Derived.Test.YtkjpnhhkebbmdaaDoorM5
import Derived.StillTailTactics
set_option linter.unusedVariables false
set_option linter.unusedSimpArgs false
namespace Go.Proofs.YtkjpnhhkebbmdaaDoor
open Go.RowKit

attribute [local go_sem high] sliced_low
/-! ### A plan that dice give -/
theorem results_plan {fn : Func} {t : Tmp} (h : fn.results = #[.cell t 24]) (tmps : Array Value) (w : World) (g : Nat) (hp : tmps.getD t undef = .pointer (some ⟨g, 0, none⟩)) {p n h' : Int} (hX : PlanCell w g p n h') :
    (results fn tmps).run Tryd.prog w = .ok (planV p n h') w :=
  results_cell_row h tmps w g 24 _ (0, 0) _ hp hX Tryd.underlying24 rfl (by kernel_rfl)
theorem PlanCell.frozen {w : World} {x : Nat} {p n h : Int} (H : PlanCell w x p n h) (j : Nat) : w.frozen? ⟨x, j, none⟩ = false := by unfold PlanCell at H; simp [World.frozen?, H]
theorem PlanCell.fill {w : World} {x : Nat} {p n h : Int} (H : PlanCell w x p n h) (p' n' h' : Int) : PlanCell (((w.setCell ⟨x, 0, none⟩ (.int .i64 p')).setCell ⟨x, 1, none⟩ (.int .i64 n')).setCell ⟨x, 2, none⟩ (.int .i64 h')) x p' n' h' := by
  unfold PlanCell at H ⊢; simp [World.setCell, Array.getElem?_modify, H]
theorem grown_set {w w' : World} {D : Nat} (h : w.grownBy w' (some D)) (q : Addr) (v : Value) (hq : w.heap.size ≤ q.block) : w.grownBy (w'.setCell q v) (some D) :=
  ⟨h.os, h.tape, h.output, by simpa [World.setCell] using h.size, fun k hk hne => (Below.heap_setCell w' q v k (by omega)).trans (h.block k hk hne)⟩
structure PlanD (p n h : Nat) : Prop where
  n1 : 1 ≤ n
  nh : n ≤ h
  h7 : h ≤ 7
  hp : h < p
def PlanR (D p : Nat) (w : World) (e : Ending) (w' : World) : Prop := ∃ (n h : Nat) (R' : List Int), e = .returned (planV p n h) ∧ PlanD p n h ∧ DiceAt w' D R' ∧ w.grownBy w' (some D)
set_option maxRecDepth 100000 in
set_option maxHeartbeats 2000000 in
theorem plan_any (D : Nat) (R : List Int) (p : Nat) (w : World) (hd : DiceAt w D R) (hp : 2 ≤ p) (hp2 : p ≤ 2147483648) :
    Calls Tryd.prog 14 #[.pointer (some ⟨D, 0, none⟩), .int .i64 (p : Int)] w (PlanR D p w) := by
  have hlt := hd.lt
  have hpi : (2 : Int) ≤ (p : Int) := by omega
  go_enter Tryd.func14, Tryd.ntmps14
  go_wp2_with fail
  all_goals
    refine (next_nat D R _ _ (hd.alloc _) (by omega) (by omega)).mono ?_
    rintro e w1 ⟨m1, rfl, hm1, hD1, hg1⟩
    have hm7 : m1 < 7 := by omega
    have hmp : m1 + 1 < p := by omega
    have hX1 : PlanCell w1 w.heap.size 0 0 0 := (hg1.block w.heap.size (by simp) (fun e => by injection e with e; omega)).trans (PlanCell.new 0 0 0 rfl)
    have hgw1 := grown_trans (grown_of_below (r := some D) (below_alloc w (.cells #[.int .i64 0, .int .i64 0, .int .i64 0] 24))) hg1
    have HX1 := Lib.hid hX1
    have lx1 := hX1.lt
    clear hX1 hg1 hd hm1
    go_wp2_with fail
    refine (next_nat D _ _ _ hD1 (by omega) (by omega)).mono ?_
    rintro e w2 ⟨m2, rfl, hm2, hD2, hg2⟩
    have hX2 : PlanCell w2 w.heap.size 0 0 0 := (hg2.block w.heap.size lx1 (fun e => by injection e with e; omega)).trans HX1.out
    have x0 := hX2.c0
    have x1 := hX2.c1
    have x2 := hX2.c2
    have f0 := hX2.frozen 0
    have f1 := hX2.frozen 1
    have f2 := hX2.frozen 2
    have HX2 := Lib.hid hX2
    have lx2 := hX2.lt
    have HG := Lib.hid (And.intro hD2 (grown_trans hgw1 hg2))
    have hm2' : m2 ≤ m1 := by omega
    clear hX2 hg2 hD1 hD2 hgw1 hm2
    go_wp2_with fail
    have hfin := HX2.out.fill p (1 + m2) (1 + m1)
    have hgf : w.grownBy (((w2.setCell ⟨w.heap.size, 0, none⟩ (.int .i64 (p : Int))).setCell ⟨w.heap.size, 1, none⟩ (.int .i64 (1 + (m2 : Int)))).setCell ⟨w.heap.size, 2, none⟩ (.int .i64 (1 + (m1 : Int)))) (some D) :=
      grown_set (grown_set (grown_set HG.out.2 _ _ (Nat.le_refl _)) _ _ (Nat.le_refl _)) _ _ (Nat.le_refl _)
    refine bodyPost_ret (results_plan rfl _ _ w.heap.size rfl hfin) rfl ⟨1 + m2, 1 + m1, R.tail.tail, by push_cast; rfl, ⟨by omega, by omega, by omega, by omega⟩, ?_, hgf⟩
    exact ((HG.out.1.setCell _ _ (by simp; omega)).setCell _ _ (by simp; omega)).setCell _ _ (by simp; omega)

/-! ### Another order -/
theorem HvOwn.setHV {w : World} {base g c : Nat} {H : List HV} (h : HvOwn w base (.slice (some ⟨g, 0, none⟩) H.length c) H) (i : Nat) (hi : i < H.length) (x : HV) :
    HvOwn ((w.setCell ⟨g, i * 2, none⟩ (.int .i64 x.1)).setCell ⟨g, i * 2 + 1, none⟩ x.2) base (.slice (some ⟨g, 0, none⟩) H.length c) (H.set i x) := by
  have h1 := h.set0 i hi x.1
  have h1' : HvOwn (w.setCell ⟨g, i * 2, none⟩ (.int .i64 x.1)) base (.slice (some ⟨g, 0, none⟩) (H.set i (x.1, (hvAt H i).2)).length c) (H.set i (x.1, (hvAt H i).2)) := by rw [List.length_set]; exact h1
  have h2 := h1'.set1 i (by simpa using hi) x.2
  rw [hvAt_set_same _ _ _ hi, List.set_set, List.length_set] at h2
  exact h2
def swapH (H : List HV) (i k : Nat) : List HV := (H.set i (hvAt H k)).set k (hvAt H i)
def swapS (S : List Shr) (i k : Nat) : List Shr := (S.set i (hS S k, vS S k)).set k (hS S i, vS S i)
theorem swapH_len (H : List HV) (i k : Nat) : (swapH H i k).length = H.length := by simp [swapH]
theorem swapS_len (S : List Shr) (i k : Nat) : (swapS S i k).length = S.length := by simp [swapS]
theorem shr_at {S : List Shr} {k : Nat} (h : k < S.length) : S[k] = (hS S k, vS S k) := by simp [hS, vS, List.getD_eq_getElem?_getD, h]
theorem swapS_perm {S : List Shr} {i k : Nat} (hi : i < S.length) (hk : k < S.length) : (swapS S i k).Perm S := by
  unfold swapS
  rw [← shr_at hk, ← shr_at hi]
  exact List.set_set_perm hi hk
def swi (i k j : Nat) : Nat := if j = k then i else if j = i then k else j
theorem swapH_at {H : List HV} {i k j : Nat} (hi : i < H.length) (hk : k < H.length) : hvAt (swapH H i k) j = hvAt H (swi i k j) := by
  unfold swapH swi
  by_cases h1 : j = k
  · subst h1; rw [if_pos rfl, hvAt_set_same _ _ _ (by simpa using hk)]
  · rw [if_neg h1, hvAt_set_other _ _ _ _ (Ne.symm h1)]
    by_cases h2 : j = i
    · subst h2; rw [if_pos rfl, hvAt_set_same _ _ _ hi]
    · rw [if_neg h2, hvAt_set_other _ _ _ _ (Ne.symm h2)]
theorem swapS_at {S : List Shr} {i k j : Nat} (hi : i < S.length) (hk : k < S.length) : hS (swapS S i k) j = hS S (swi i k j) ∧ vS (swapS S i k) j = vS S (swi i k j) := by
  unfold swapS swi
  by_cases h1 : j = k
  · subst h1; rw [if_pos rfl]; simp [hS, vS, List.getD_eq_getElem?_getD, hk]
  · rw [if_neg h1]
    by_cases h2 : j = i
    · subst h2
      rw [if_pos rfl]
      have e1 : ((S.set j (hS S k, vS S k)).set k (hS S j, vS S j))[j]? = some (hS S k, vS S k) := by rw [List.getElem?_set_ne (Ne.symm h1)]; simp [hi]
      constructor
      · show (((S.set j (hS S k, vS S k)).set k (hS S j, vS S j)).getD j (0, [])).1 = _
        rw [List.getD_eq_getElem?_getD, e1]; rfl
      · show (((S.set j (hS S k, vS S k)).set k (hS S j, vS S j)).getD j (0, [])).2 = _
        rw [List.getD_eq_getElem?_getD, e1]; rfl
    · rw [if_neg h2]; simp [hS, vS, List.getD_eq_getElem?_getD, List.getElem?_set_ne (Ne.symm h1), List.getElem?_set_ne (Ne.symm h2)]
theorem swi_lt {i k j n : Nat} (hi : i < n) (hk : k < n) (hj : j < n) : swi i k j < n := by unfold swi; split <;> (try split) <;> assumption
theorem swi_inj {i k a b : Nat} (h : swi i k a = swi i k b) : a = b := by unfold swi at h; split at h <;> split at h <;> (try split at h) <;> (try split at h) <;> omega
/-- Two shares have changed places. -/
theorem RowsI.swap {w : World} {base g c : Nat} {H : List HV} {S : List Shr} (h : RowsI w base (.slice (some ⟨g, 0, none⟩) H.length c) H S) {i k : Nat} (hi : i < S.length) (hk : k < S.length) :
    RowsI ((((w.setCell ⟨g, i * 2, none⟩ (.int .i64 (hvAt H k).1)).setCell ⟨g, i * 2 + 1, none⟩ (hvAt H k).2).setCell ⟨g, k * 2, none⟩ (.int .i64 (hvAt H i).1)).setCell ⟨g, k * 2 + 1, none⟩ (hvAt H i).2) base (.slice (some ⟨g, 0, none⟩) H.length c) (swapH H i k) (swapS S i k) := by
  have hl := h.len
  have h1 := h.out.setHV i (by omega) (hvAt H k)
  have h1' : HvOwn ((w.setCell ⟨g, i * 2, none⟩ (.int .i64 (hvAt H k).1)).setCell ⟨g, i * 2 + 1, none⟩ (hvAt H k).2) base (.slice (some ⟨g, 0, none⟩) (H.set i (hvAt H k)).length c) (H.set i (hvAt H k)) := by rw [List.length_set]; exact h1
  have h2 := h1'.setHV k (by rw [List.length_set]; omega) (hvAt H i)
  rw [List.length_set] at h2
  have hHi : i < H.length := by omega
  have hHk : k < H.length := by omega
  refine ⟨h2, by rw [swapH_len, swapS_len, hl], fun j hj => ?_, fun j hj => ?_, fun a b ha hb hab x e1 e2 => ?_, fun a ha x e1 e2 => ?_⟩
  · rw [swapS_len] at hj
    rw [swapH_at hHi hHk, (swapS_at hi hk).1]; exact h.hold _ (swi_lt hi hk hj)
  · rw [swapS_len] at hj
    have hne : ∀ b, (hvAt H (swi i k j)).2.ownBlock = some b → b ≠ g := fun b e e2 => h.no _ (swi_lt hi hk hj) b e (by rw [e2]; rfl)
    rw [swapH_at hHi hHk, (swapS_at hi hk).2]
    exact own_other (own_other (own_other (own_other (h.row _ (swi_lt hi hk hj)) _ _ hne) _ _ hne) _ _ hne) _ _ hne
  · rw [swapS_len] at ha hb
    rw [swapH_at hHi hHk] at e1 e2
    exact h.ne _ _ (swi_lt hi hk ha) (swi_lt hi hk hb) (fun e => hab (swi_inj e)) x e1 e2
  · rw [swapS_len] at ha
    rw [swapH_at hHi hHk] at e1
    exact h.no _ (swi_lt hi hk ha) x e1 e2
def TurnP (D : Nat) (S : List Shr) (least : Nat) (w : World) (e : Ending) (w' : World) : Prop :=
  ∃ (A : Option Addr) (c m : Nat) (Q : List Shr) (R' : List Int), e = .returned (.slice A m c) ∧ Q.Perm S ∧ m ≤ S.length ∧ (least ≤ m ∨ m = S.length) ∧ ShP (· ≠ D) w' A c (Q.take m) ∧ DiceAt w' D R' ∧ w.grownBy w' (some D)
theorem RowsI.drew {w : World} {base : Nat} {v : Value} {H : List HV} {S : List Shr} (h : RowsI w base v H S) : RowsI w.drew base v H S := ⟨h.out, h.len, h.hold, h.row, h.ne, h.no⟩
theorem grown_drew {w w' : World} {r : Option Nat} (h : w.grownBy w' r) : w.grownBy w'.drew r := ⟨h.os, h.tape, h.output, h.size, h.block⟩
theorem grown4 {w w' : World} {D g a b c d : Nat} {v1 v2 v3 v4 : Value} (h : w.grownBy w' (some D)) (hg : w.heap.size ≤ g) : w.grownBy ((((w'.setCell ⟨g, a, none⟩ v1).setCell ⟨g, b, none⟩ v2).setCell ⟨g, c, none⟩ v3).setCell ⟨g, d, none⟩ v4).drew (some D) :=
  grown_drew (grown_set (grown_set (grown_set (grown_set h ⟨g, a, none⟩ v1 hg) ⟨g, b, none⟩ v2 hg) ⟨g, c, none⟩ v3 hg) ⟨g, d, none⟩ v4 hg)
theorem dice4 {w : World} {D g a b c d : Nat} {R : List Int} {v1 v2 v3 v4 : Value} (h : DiceAt w D R) (hg : D < g) : DiceAt ((((w.setCell ⟨g, a, none⟩ v1).setCell ⟨g, b, none⟩ v2).setCell ⟨g, c, none⟩ v3).setCell ⟨g, d, none⟩ v4).drew D R :=
  DiceAt.drewN ((((h.setCell ⟨g, a, none⟩ v1 hg).setCell ⟨g, b, none⟩ v2 hg).setCell ⟨g, c, none⟩ v3 hg).setCell ⟨g, d, none⟩ v4 hg) 1
theorem RowsI.grown {w w' : World} {base D : Nat} {v : Value} {H : List HV} {S : List Shr} (h : RowsI w base v H S) (hg : w.grownBy w' (some D)) (hD : D < base) : RowsI w' base v H S := by
  have hk : ∀ {e : TypeId} {size : Nat} {u : Value} {n : Nat} {xs : List Value}, w.ownsRow base e size u n xs → w'.ownsRow base e size u n xs := fun {e size u n xs} ho => World.ownsRow.kept ho hg (by
    rcases he : u.ownBlock with _ | b
    · exact .inl rfl
    · exact .inr (fun e2 => by have := (World.ownsRow.lt ho b he).1; injection e2 with e2; omega))
  exact ⟨hk h.out, h.len, h.hold, fun k hlt => hk (h.row k hlt), h.ne, h.no⟩
theorem swap_id {w : World} {base : Nat} {v : Value} {H : List HV} {S : List Shr} (h : RowsI w base v H S) {i k : Nat} (hi : i < S.length) : ∃ g c B1 c1 B2 c2, k < S.length → v = .slice (some ⟨g, 0, none⟩) H.length c ∧ g < w.heap.size ∧ base ≤ g ∧ (hvAt H i).2 = .slice B1 (vS S i).length c1 ∧ (hvAt H k).2 = .slice B2 (vS S k).length c2 ∧
      w.cell? ⟨g, i * 2, none⟩ = some (.int .i64 (hS S i)) ∧ w.cell? ⟨g, i * 2 + 1, none⟩ = some (.slice B1 (vS S i).length c1) ∧ w.cell? ⟨g, k * 2, none⟩ = some (.int .i64 (hS S k)) ∧ w.cell? ⟨g, k * 2 + 1, none⟩ = some (.slice B2 (vS S k).length c2) ∧ ∀ j, w.frozen? ⟨g, j, none⟩ = false := by
  obtain ⟨g, c, hv, hg, hbg, -, -, hcell, hfr⟩ := h.out.form (by rw [h.len]; omega)
  obtain ⟨B1, c1, hv1, -⟩ := own_ints (h.row i hi) rfl
  obtain ⟨a1, a2⟩ := hcell i (by rw [h.len]; exact hi)
  by_cases hk : k < S.length
  · obtain ⟨B2, c2, hv2, -⟩ := own_ints (h.row k hk) rfl
    obtain ⟨a3, a4⟩ := hcell k (by rw [h.len]; exact hk)
    exact ⟨g, c, B1, c1, B2, c2, fun _ => ⟨hv, hg, hbg, hv1, hv2, by rw [a1, h.hold i hi], by rw [a2, hv1], by rw [a3, h.hold k hk], by rw [a4, hv2], hfr⟩⟩
  · exact ⟨g, c, B1, c1, none, 0, fun e => absurd e hk⟩
set_option maxRecDepth 100000 in
set_option maxHeartbeats 4000000 in
theorem turn_any {P : Nat → Prop} (D : Nat) (R : List Int) (A : Option Addr) (c : Nat) (S : List Shr) (least : Nat) (w : World) (hd : DiceAt w D R) (hS : ShP P w A c S) (hsh : Short S) (hl : S.length ≤ 100000) (hle : least ≤ 100000) :
    Calls Tryd.prog 26 #[.pointer (some ⟨D, 0, none⟩), .slice A S.length c, .int .i64 (least : Int)] w (TurnP D S least w) := by
  have hDlt := hd.lt
  have HCP := Lib.hid (copy_any A c S w hS hsh (by omega))
  clear hS hsh
  go_enter Tryd.func26, Tryd.ntmps26
  go_wp2_with fail
  refine HCP.out.mono ?_
  rintro e w1 ⟨v, H, rfl, hR, hb1⟩
  obtain ⟨OA, oc, rfl, -⟩ := hR.read
  have HR := Lib.hid hR
  have HB1 := Lib.hid hb1
  have hD1 := hd.below hb1
  have hg1 := grown_of_below (r := some D) hb1
  clear hR hb1 HCP
  go_wp2_with fail
  go_loopw [14] (fun i wr => ∃ (k : Nat) (Q : List Shr) (H : List HV) (R : List Int), k ≤ S.length ∧ i = .int .i64 k ∧ Q.length = S.length ∧ Q.Perm S ∧ RowsI wr w.heap.size (.slice OA S.length oc) H Q ∧ DiceAt wr D R ∧ w.grownBy wr (some D)) (fun i _ => S.length - (intOf i).toNat)
  case atStart => exact ⟨0, S, H, R, Nat.zero_le _, rfl, rfl, List.Perm.refl _, HR.out, hD1, hg1⟩
  case round =>
    obtain ⟨i, Q, H2, R2, hi, rfl, hQl, hperm, hR2, hDr, hgr⟩ := hrel
    have HQL := Lib.hid hQl
    have HPM := Lib.hid hperm
    have HR2 := Lib.hid hR2
    have hQ1 : Q.length ≤ S.length := by omega
    have hQ2 : S.length ≤ Q.length := by omega
    have hgs := hgr.size
    clear hQl hperm hR2 hD1 hg1 hd
    by_cases hlt : i < S.length
    · go_wp2_with fail
      refine (next_nat D R2 _ _ hDr (by omega) (by omega)).mono ?_
      rintro e w3 ⟨k, rfl, hk, hD3, hg3⟩
      have hki : k ≤ i := by omega
      have hR3 : RowsI w3 w.heap.size (.slice OA S.length oc) H2 Q := HR2.out.grown hg3 hDlt
      have hgw3 := grown_trans hgr hg3
      have HR3 := Lib.hid hR3
      have hz3 := hg3.size
      obtain ⟨g, c3, B1, c1, B2, c2, hall⟩ := swap_id (k := k) hR3 (show i < Q.length by omega)
      obtain ⟨hv, hg, hbg, hv1, hv2, a1, a2, a3, a4, hfr⟩ := hall (by omega)
      injection hv with hv3 hv4 hv5
      subst hv3; subst hv5
      have f1 := hfr (i * 2)
      have f2 := hfr (i * 2 + 1)
      have f3 := hfr (k * 2)
      have f4 := hfr (k * 2 + 1)
      have HV := Lib.hid (And.intro hv1 (And.intro hv2 hv4))
      have HH := Lib.hid (And.intro (HR3.out.hold i (by omega)) (HR3.out.hold k (by omega)))
      have HSW := Lib.hid (swapS_perm (S := Q) (i := i) (k := k) (by omega) (by omega))
      have HSL := Lib.hid (swapS_len Q i k)
      have hR3d : RowsI w3 w.heap.size (.slice (some ⟨g, 0, none⟩) H2.length oc) H2 Q := by rw [← hv4]; exact hR3
      have hsw := hR3d.swap (i := i) (k := k) (by omega) (by omega)
      rw [hv1, hv2, HR3.out.hold i (by omega), HR3.out.hold k (by omega), ← hv4] at hsw
      have HSWAP := Lib.hid hsw.drew
      have hsw1 := hR3d.swap (i := i) (k := i) (by omega) (by omega)
      rw [hv1, HR3.out.hold i (by omega), ← hv4] at hsw1
      have HSWAP1 := Lib.hid hsw1.drew
      clear hsw hsw1 hR3d
      have n1 : (0 : Int) ≤ (i : Int) := by omega
      have n2 : (i : Int) < (S.length : Int) := by omega
      have n3 : (0 : Int) ≤ (k : Int) := by omega
      have n4 : (k : Int) < (S.length : Int) := by omega
      generalize hS Q i = x1 at *
      generalize vS Q i = L1 at *
      generalize hS Q k = x2 at *
      generalize vS Q k = L2 at *
      clear hv1 hv2 hv4 hfr hall hDr hgr hR3 hg3
      go_wp2_with fail
      by_cases hik : i = k
      · subst hik
        go_region_law (fail)
        all_goals
          go_wp2_with fail
          go_roundw
          case rel => exact ⟨i + 1, swapS Q i i, swapH H2 i i, R2.tail, by omega, by go_num, HSL.out.trans HQL.out, HSW.out.trans HPM.out, HSWAP1.out, dice4 hD3 (by omega), grown4 hgw3 hbg⟩
          case measure => simp [intOf]; omega
      · have q1 : ¬ i * 2 = k * 2 := by omega
        have q2 : ¬ i * 2 + 1 = k * 2 := by omega
        have q3 : ¬ i * 2 = k * 2 + 1 := by omega
        have q4 : ¬ k * 2 = i * 2 := by omega
        have q5 : ¬ k * 2 + 1 = i * 2 := by omega
        have q6 : ¬ k * 2 = i * 2 + 1 := by omega
        go_region_law (fail)
        all_goals
          go_wp2_with fail
          go_roundw
          case rel => exact ⟨i + 1, swapS Q i k, swapH H2 i k, R2.tail, by omega, by go_num, HSL.out.trans HQL.out, HSW.out.trans HPM.out, HSWAP.out, dice4 hD3 (by omega), grown4 hgw3 hbg⟩
          case measure => simp [intOf]; omega
    · obtain rfl : i = S.length := by omega
      obtain ⟨_, _, hv, hX⟩ := HR2.out.read
      injection hv with hv1 hv2 hv3
      subst hv1; subst hv3
      have HX := Lib.hid (show ShP (· ≠ D) wr OA oc Q from hX.mono fun b _ hb => by omega)
      have hcap := hX.ok.len
      clear hX hv2
      by_cases hq : S.length ≤ least
      · have t1 : decide ((S.length : Int) ≤ (least : Int)) = true := decide_eq_true (by omega)
        have t2 : decide (S.length ≤ least) = true := decide_eq_true hq
        go_wp2_with fail
        go_ret
        exact ⟨OA, oc, S.length, Q, R2, rfl, HPM.out, Nat.le_refl _, .inr rfl, by rw [List.take_of_length_le hQ1]; exact HX.out, hDr, hgr⟩
      · have t1 : decide ((S.length : Int) ≤ (least : Int)) = false := decide_eq_false (by omega)
        have t2 : decide (S.length ≤ least) = false := decide_eq_false hq
        go_wp2_with fail
        refine (next_nat D R2 _ _ hDr (by omega) (by omega)).mono ?_
        rintro e w3 ⟨m, rfl, hm, hD3, hg3⟩
        have n1 : (0 : Int) ≤ (least : Int) + (m : Int) := by omega
        have n2 : (least : Int) + (m : Int) ≤ (oc : Int) := by omega
        have n3 : ((least : Int) + (m : Int)).toNat = least + m := by omega
        have HX3 := Lib.hid (HX.out.keep (Kept.mv hg3))
        have HG3 := Lib.hid (And.intro hD3 (grown_trans hgr hg3))
        have hml : least + m ≤ S.length := by omega
        clear hD3 hg3 hDr hgr hm
        go_wp2_with fail
        go_ret
        exact ⟨OA, oc, least + m, Q, R2.tail, rfl, HPM.out, hml, .inl (by omega), HX3.out.take _, HG3.out⟩
end Go.Proofs.YtkjpnhhkebbmdaaDoor
namespace Go.Proofs.YtkjpnhhkebbmdaaDoor
open Go.RowKit

attribute [local go_sem high] sliced_low
/-- All shares are the values of the polynomials F at their holders. -/
structure OnP (p h m : Nat) (F : Nat → List Nat) (N : List ShN) : Prop where
  on : ∀ s ∈ N, 1 ≤ s.1 ∧ s.1 ≤ h ∧ s.2 = (List.range m).map fun i => evN p (F i) s.1
  nd : (hsN N).Nodup
theorem mem_at {N : List ShN} {k : Nat} (hk : k < N.length) : (hN N k, vN N k) ∈ N := by rw [← getD_at hk]; exact List.getElem_mem hk
theorem OnP.at_ {p h m : Nat} {F : Nat → List Nat} {N : List ShN} (H : OnP p h m F N) {k : Nat} (hk : k < N.length) : 1 ≤ hN N k ∧ hN N k ≤ h ∧ vN N k = (List.range m).map fun i => evN p (F i) (hN N k) := H.on _ (mem_at hk)
theorem OnP.good {p h m : Nat} {F : Nat → List Nat} {N : List ShN} (H : OnP p h m F N) (hp : 1 ≤ p) (hm : m ≤ 2048) : GoodN p h N := by
  have hl : ∀ k, k < N.length → (vN N k).length = m := fun k hk => by rw [(H.at_ hk).2.2]; simp
  refine ⟨fun k hk => ⟨(H.at_ hk).1, (H.at_ hk).2.1, fun x hx => ?_⟩, fun k hk => by rw [hl k hk, hl 0 (by omega)], fun k hk => by rw [hl k hk]; exact hm, H.nd⟩
  rw [(H.at_ hk).2.2] at hx
  obtain ⟨i, -, rfl⟩ := List.mem_map.1 hx
  exact evN_lt hp _ _
theorem OnP.sub {p h m : Nat} {F : Nat → List Nat} {N M : List ShN} (H : OnP p h m F N) (hs : M.Sublist N) : OnP p h m F M := ⟨fun s h => H.on s (hs.subset h), H.nd.sublist (hs.map _)⟩
theorem OnP.take {p h m : Nat} {F : Nat → List Nat} {N : List ShN} (H : OnP p h m F N) (n : Nat) : OnP p h m F (N.take n) := H.sub (List.take_sublist _ _)
theorem OnP.perm {p h m : Nat} {F : Nat → List Nat} {N M : List ShN} (H : OnP p h m F N) (hs : M.Perm N) : OnP p h m F M := ⟨fun s h => H.on s (hs.subset h), (hs.map Prod.fst).nodup_iff.2 H.nd⟩
theorem OnP.val {p h m : Nat} {F : Nat → List Nat} {N : List ShN} (H : OnP p h m F N) {k i : Nat} (hk : k < N.length) (hi : i < m) : nthN (vN N k) i = evN p (F i) (hN N k) := by
  rw [(H.at_ hk).2.2, nthN_eq (by simpa using hi)]; simp
theorem OnP.weigh {p h m n : Nat} {F : Nat → List Nat} {N : List ShN} (H : OnP p h m F N) (hp : PrimeN p) (hh : h < p) (hn : n ≤ N.length) (hF : ∀ i, i < m → (F i).length ≤ n) {i : Nat} (hi : i < m) (x : Nat) :
    wgN p (wsN p (hsN (N.take n)) x) (colN (N.take n) i) n = evN p (F i) x := by
  have hT := H.take n
  have hl : (N.take n).length = n := by rw [List.length_take]; omega
  have hlt : ∀ y ∈ hsN (N.take n), y < p := fun y hy => by
    obtain ⟨s, hs, rfl⟩ := List.mem_map.1 hy
    have := hT.on s hs; omega
  have := interpN (L := F i) (ys := colN (N.take n) i) hp hlt hT.nd (by rw [hsN_len, hl]; exact hF i hi) (fun k hk => by
    rw [hsN_len] at hk
    rw [colN_nth hk, hsN_nth hk, hT.val hk hi]) x
  rw [hsN_len, hl] at this; exact this
theorem OnP.comb {p h m n : Nat} {F : Nat → List Nat} {N : List ShN} (H : OnP p h m F N) (hp : PrimeN p) (hh : h < p) (h1 : 1 ≤ n) (hn : n ≤ N.length) (hF : ∀ i, i < m → (F i).length ≤ n) :
    combN p n N = (List.range m).map fun i => evN p (F i) 0 := by
  have h0 : (vN N 0).length = m := by rw [(H.at_ (show 0 < N.length by omega)).2.2]; simp
  unfold combN
  rw [h0]
  refine List.map_congr_left fun i hi => ?_
  exact H.weigh hp hh hn hF (List.mem_range.1 hi) 0
theorem OnP.fit {p h m n : Nat} {F : Nat → List Nat} {N : List ShN} (H : OnP p h m F N) (hp : PrimeN p) (hh : h < p) (hn : n ≤ N.length) (hF : ∀ i, i < m → (F i).length ≤ n) : FitP p n N := fun k _ hk2 i hi => by
  have h0 : (vN N 0).length = m := by rw [(H.at_ (show 0 < N.length by omega)).2.2]; simp
  rw [h0] at hi
  unfold fitAt
  rw [H.weigh hp hh hn hF hi, H.val hk2 hi]

/-! ### What the functions say of such shares -/
theorem plB_true {p n h : Nat} (h1 : 1 ≤ n) (h2 : n ≤ h) (h3 : h ≤ 16) (h4 : h < p) (hv : validI (p : Int) = true) : plB p n h = true := (plB_yes ⟨by omega, by omega, by omega, by omega, hv⟩).symm
theorem cm_on {p n h m : Nat} {F : Nat → List Nat} {N : List ShN} (H : OnP p h m F N) (hp : PrimeN p) (hpl : plB p n h = true) (hm : m ≤ 2048) (hn : n ≤ N.length) (hF : ∀ i, i < m → (F i).length ≤ n) :
    cmE p n h (shL N) = 0 ∧ cmL p n h (shL N) = (List.range m).map fun i => evN p (F i) 0 := by
  obtain ⟨l1, l2, l3, l4, -⟩ := of_decide_eq_true hpl
  have hg := (gdB_yes (gd_back (H.good (by omega) hm))).symm
  have he := (cmE_ok hpl hg (by rw [shL_len]; omega)).symm
  exact ⟨he, by rw [cmL_ok he, H.comb hp (by omega) (by omega) hn hF]⟩
theorem cm_few {p n h m : Nat} {F : Nat → List Nat} {N : List ShN} (H : OnP p h m F N) (hpl : plB p n h = true) (hm : m ≤ 2048) (hn : N.length < n) : cmE p n h (shL N) = 5 := by
  obtain ⟨l1, l2, l3, l4, -⟩ := of_decide_eq_true hpl
  exact (cmE_few hpl (gdB_yes (gd_back (H.good (by omega) hm))).symm (by rw [shL_len]; omega)).symm
theorem ft_on {p n h m : Nat} {F : Nat → List Nat} {N : List ShN} (H : OnP p h m F N) (hp : PrimeN p) (hpl : plB p n h = true) (hm : m ≤ 2048) (hF : ∀ i, i < m → (F i).length ≤ n) : ftB p n h (shL N) = true := by
  obtain ⟨l1, l2, l3, l4, -⟩ := of_decide_eq_true hpl
  have hg := (gdB_yes (gd_back (H.good (by omega) hm))).symm
  by_cases hn : (N.length : Int) ≤ n
  · exact (ftB_few hpl hg (by rw [shL_len]; exact hn)).symm
  · have := ftB_more hpl hg (by rw [shL_len]; exact hn)
    rw [natL_shL, Int.toNat_natCast, Int.toNat_natCast] at this
    exact (ftB_yes this (H.fit hp (by omega) (by omega) hF)).symm
/-- Another order of such shares. -/
theorem on_perm {p h m : Nat} {F : Nat → List Nat} {N : List ShN} (H : OnP p h m F N) {Q : List Shr} (hq : Q.Perm (shL N)) : ∃ M, Q = shL M ∧ M.length = N.length ∧ OnP p h m F M := by
  have h1 : (natL Q).Perm N := by have := hq.map natS; rwa [show (shL N).map natS = N from natL_shL N] at this
  have h2 : Q = shL (natL Q) := by
    simp only [shL, natL, List.map_map]
    conv => lhs; rw [← List.map_id Q]
    refine List.map_congr_left fun s hs => ?_
    obtain ⟨t, -, rfl⟩ := List.mem_map.1 (hq.subset hs)
    simp only [Function.comp, natS, shI, Int.toNat_natCast, toNat_ofN, id]
  exact ⟨natL Q, h2, h1.length_eq, H.perm h1⟩

/-! ### Dealt shares -/
theorem evN_at0 {p : Nat} {L : List Nat} (h : ∀ x ∈ L, x < p) (hp : 1 ≤ p) : evN p L 0 = nthN L 0 := by
  cases L with
  | nil => rfl
  | cons c L =>
    have hc := h c (by simp)
    simp only [evN, nthN, List.getD_cons_zero, fmul, fadd, Nat.mul_zero, Nat.zero_mod, Nat.zero_add]
    exact Nat.mod_eq_of_lt hc
theorem polN_zero {sec ran : List Nat} {k i : Nat} : nthN (polN sec ran k i) 0 = nthN sec i := by simp [polN, nthN]
theorem deal_on {p n h : Nat} {sec ran : List Nat} : OnP p h sec.length (fun i => polN sec ran (n - 1) i) (dealN p n h sec ran) := by
  refine ⟨fun s hs => ?_, ?_⟩
  · obtain ⟨j, hj, rfl⟩ := List.mem_map.1 hs
    have := List.mem_range.1 hj
    exact ⟨by simp, by simp only; omega, rfl⟩
  · refine nodup_hsN fun k hk j hj => ?_
    unfold dealN at hk ⊢
    rw [dealtT_len] at hk
    rw [(dealtT_at hk).1, (dealtT_at (show j < h by omega)).1]; omega
theorem deal_len (p n h : Nat) (sec ran : List Nat) : (dealN p n h sec ran).length = h := dealtT_len _ _ _ _ _ _
theorem deal_sec {p n : Nat} {sec ran : List Nat} (hp : 1 ≤ p) (hs : ∀ x ∈ sec, x < p) (hr : ∀ x ∈ ran, x < p) : (List.range sec.length).map (fun i => evN p (polN sec ran (n - 1) i) 0) = sec := by
  refine extN (by simp) fun k hk => ?_
  simp only [List.length_map, List.length_range] at hk
  rw [nthN_eq (by simpa using hk)]
  simp only [List.getElem_map, List.getElem_range]
  rw [evN_at0 (polN_lt hp hs hr _ _) hp, polN_zero]
theorem polN_le {sec ran : List Nat} {n i : Nat} (h1 : 1 ≤ n) : (polN sec ran (n - 1) i).length ≤ n := Nat.le_trans polN_len (by omega)
theorem dl_nats {p n h : Nat} {sec ran : List Nat} (hpl : plB p n h = true) (hm : sec.length ≤ 2048) (hs : ∀ x ∈ sec, x < p) (hr : ∀ x ∈ ran, x < p) (hl : ran.length = sec.length * (n - 1)) :
    dlE p n h (ofN sec) (ofN ran) = 0 ∧ dlL p n h (ofN sec) (ofN ran) = dealN p n h sec ran := by
  obtain ⟨l1, l2, l3, l4, -⟩ := of_decide_eq_true hpl
  have he : dlE p n h (ofN sec) (ofN ran) = 0 := dlE_ok hpl (by rw [len_ofN]; omega) ⟨nat_inside hs, nat_inside hr, by
    rw [len_ofN, len_ofN, hl, show ((n : Int) - 1) = ((n - 1 : Nat) : Int) by omega]; push_cast; rfl⟩
  exact ⟨he, by unfold dlL; rw [if_pos he, toNat_ofN, toNat_ofN, Int.toNat_natCast, Int.toNat_natCast, Int.toNat_natCast]⟩
theorem deal_nats {p n h : Nat} {A B : Option Addr} {ca cb : Nat} {sec ran : List Nat} {w : World} (hv : primeV p = validI p) (hB : Bases w) (hA : NatsAt w A sec) (hR : NatsAt w B ran) (hok : SlOK B cb ran)
    (hpl : plB p n h = true) (hm : sec.length ≤ 2048) (hs : ∀ x ∈ sec, x < p) (hr : ∀ x ∈ ran, x < p) (hl : ran.length = sec.length * (n - 1)) (hl2 : ran.length ≤ 1048576) :
    Calls Tryd.prog 20 #[planV p n h, .slice A sec.length ca, .slice B ran.length cb] w (ShErr (shL (dealN p n h sec ran)) 0 w) := by
  obtain ⟨e1, e2⟩ := dl_nats hpl hm hs hr hl
  have := dealS_any p n h A B ca cb (ofN sec) (ofN ran) w hv hB hA.ints hR.ints (by rw [len_ofN]; exact hok.iok) (by rw [len_ofN]; omega) (by rw [len_ofN]; exact hl2)
  rw [e1, e2, len_ofN, len_ofN] at this
  exact this

theorem prime_valid {p : Nat} (hp : PrimeN p) (h : p ≤ 1073741824) : primeV p = validI p ∧ validI (p : Int) = true := by
  have h1 := validI_prime hp h
  exact ⟨by rw [h1]; exact (primeV_true h hp).symm, h1⟩
theorem deal_awake : dealN 7 2 3 [3] [1] = [(1, [4]), (2, [5]), (3, [6])] := by decide +kernel
set_option maxRecDepth 100000 in
set_option maxHeartbeats 4000000 in
theorem awake_any (w : World) (hB : Bases w) : Calls Tryd.prog 11 #[] w (RetB (.bool true) w) := by
  obtain ⟨hv, hv2⟩ := prime_valid prime_7 (by omega)
  have hd : ∀ (W : World) (A B : Option Addr), Bases W → NatsAt W A [3] → NatsAt W B [1] → SlOK B 1 [1] → Calls Tryd.prog 20 #[planV 7 2 3, .slice A 1 1, .slice B 1 1] W (ShErr (shL [(1, [4]), (2, [5]), (3, [6])]) 0 W) := fun W A B h1 h2 h3 h4 => by
    have := deal_nats (p := 7) (n := 2) (h := 3) (A := A) (B := B) (ca := 1) (cb := 1) (sec := [3]) (ran := [1]) hv h1 h2 h3 h4 (plB_true (by omega) (by omega) (by omega) (by omega) hv2) (by simp) (by simp) (by simp) (by simp) (by simp)
    rw [deal_awake] at this
    exact this
  have HD := Lib.hid hd
  have HB := Lib.hid hB
  clear hd hB hv hv2
  go_enter Tryd.func11, Tryd.ntmps11
  go_wp2_with fail
  refine (HD.out _ _ _ ((HB.out.keep (below_alloc _ _)).keep (below_alloc _ _)) ((lit1_nats w 3).nats.alloc _) (by exact (lit1_at (w.alloc (.cells #[.int .i64 3] 3)) (w.heap.size + 1) 1 (by simp)).nats) (SlOK.own (lit1_at (w.alloc (.cells #[.int .i64 3] 3)) (w.heap.size + 1) 1 (by simp)) (by unfold maxLen; simp))).mono ?_
  rintro e w1 ⟨A, c, rfl, hS, hb⟩
  have hbw : Below w.heap.size w w1 := below_of_alloc (below_of_alloc (hb.mono (by simp; omega)) (by simp)) (Nat.le_refl _)
  obtain ⟨b, off, B1, c1, rfl, hb1, -, -, z1, n1, -⟩ := hS.nat (show 0 < 3 by omega)
  obtain ⟨b', off', B2, c2, hA2, -, -, -, z2, n2, -⟩ := hS.nat (k := 1) (show 1 < 3 by omega)
  obtain ⟨b'', off'', B3, c3, hA3, -, -, -, z3, n3, -⟩ := hS.nat (k := 2) (show 2 < 3 by omega)
  injection hA2 with e0; injection e0 with e1 e2; subst e1; subst e2
  injection hA3 with e0; injection e0 with e1 e2; subst e1; subst e2
  obtain ⟨x1, o1, rfl, _, y1⟩ := n1 0 (by simp [vN])
  obtain ⟨x2, o2, rfl, _, y2⟩ := n2 0 (by simp [vN])
  obtain ⟨x3, o3, rfl, _, y3⟩ := n3 0 (by simp [vN])
  simp [vN, nthN] at z1 z2 z3 y1 y2 y3
  clear hS n1 n2 n3 hb
  go_wp2_with fail
  go_ret
  exact RetB.bool rfl hbw
end Go.Proofs.YtkjpnhhkebbmdaaDoor
namespace Go.Proofs.YtkjpnhhkebbmdaaDoor
open Go.RowKit

theorem PlanCell.mv {w w' : World} {x D : Nat} {p n h : Int} (H : PlanCell w x p n h) (hg : w.grownBy w' (some D)) (hne : x ≠ D) : PlanCell w' x p n h := H.keep (hg.block x H.lt (fun e => by injection e with e; exact hne e))
theorem grown_undrew {w w' : World} {r : Option Nat} (h : w.drew.grownBy w' r) : w.grownBy w' r := ⟨h.os, h.tape, h.output, h.size, h.block⟩
theorem Env.bases {w w' : World} {D : Nat} {R : List Int} (h : Env w w' D R) (hB : Bases w) : Bases w' := hB.below h.below hB.1
theorem ShErr.open_ {S : List Shr} {er : Int} {w w' : World} {e : Ending} (h : ShErr S er w e w') : ∃ A c, e = .returned (.tuple #[.slice A S.length c, .int .i64 er]) ∧ ShP (fun b => w.heap.size ≤ b) w' A c S ∧ Below w.heap.size w w' := h
theorem ShP.away {w w' : World} {D : Nat} {A : Option Addr} {c : Nat} {S : List Shr} (h : ShP (fun b => w.heap.size ≤ b) w' A c S) (hD : D < w.heap.size) : ShP (· ≠ D) w' A c S := h.mono fun b _ hb => by omega
theorem short_shL {N : List ShN} (h : ∀ k, k < N.length → (vN N k).length ≤ 1048576) : Short (shL N) := fun k hk => by
  rw [shL_len] at hk
  rw [vS_shL, len_ofN]; exact h k hk
theorem OnP.short {p h m : Nat} {F : Nat → List Nat} {N : List ShN} (H : OnP p h m F N) (hm : m ≤ 1048576) : Short (shL N) := short_shL fun k hk => by rw [(H.at_ hk).2.2]; simp; exact hm
end Go.Proofs.YtkjpnhhkebbmdaaDoor
namespace Go.Proofs.YtkjpnhhkebbmdaaDoor
open Go.RowKit

structure PlanN (p n h : Nat) : Prop where
  pr : PrimeN p
  pv : primeV p = validI p
  pl : plB p n h = true
  n1 : 1 ≤ n
  nh : n ≤ h
  h7 : h ≤ 7
  hp : h < p
  p2 : p ≤ 1073741824
theorem PlanN.mk' {p n h : Nat} (hp : PrimeN p) (h2 : p ≤ 1073741824) (h1 : 1 ≤ n) (hh : n ≤ h) (h7 : h ≤ 7) (hlt : h < p) : PlanN p n h :=
  ⟨hp, (prime_valid hp h2).1, plB_true h1 hh (by omega) hlt (prime_valid hp h2).2, h1, hh, h7, hlt, h2⟩
theorem PlanN.p1 {p n h : Nat} (H : PlanN p n h) : 1 ≤ p := by have := H.pr.1; omega

/-- Shares of the list sec. -/
structure Made (p n h : Nat) (sec : List Nat) (N : List ShN) : Prop where
  ex : ∃ F, OnP p h sec.length F N ∧ (∀ i, i < sec.length → (F i).length ≤ n) ∧ (List.range sec.length).map (fun i => evN p (F i) 0) = sec
theorem Made.perm {p n h : Nat} {sec : List Nat} {N M : List ShN} (H : Made p n h sec N) (hs : M.Perm N) : Made p n h sec M := by
  obtain ⟨F, h1, h2, h3⟩ := H.ex
  exact ⟨F, h1.perm hs, h2, h3⟩
theorem Made.take {p n h : Nat} {sec : List Nat} {N : List ShN} (H : Made p n h sec N) (k : Nat) : Made p n h sec (N.take k) := by
  obtain ⟨F, h1, h2, h3⟩ := H.ex
  exact ⟨F, h1.take k, h2, h3⟩
theorem Made.short {p n h : Nat} {sec : List Nat} {N : List ShN} (H : Made p n h sec N) (hm : sec.length ≤ 1048576) : Short (shL N) := by
  obtain ⟨F, h1, h2, h3⟩ := H.ex
  exact h1.short hm
theorem Made.cm {p n h : Nat} {sec : List Nat} {N : List ShN} (H : Made p n h sec N) (P : PlanN p n h) (hm : sec.length ≤ 2048) (hn : n ≤ N.length) : cmE p n h (shL N) = 0 ∧ cmL p n h (shL N) = sec := by
  obtain ⟨F, h1, h2, h3⟩ := H.ex
  have := cm_on h1 P.pr P.pl hm hn h2
  rw [h3] at this; exact this
theorem Made.few {p n h : Nat} {sec : List Nat} {N : List ShN} (H : Made p n h sec N) (P : PlanN p n h) (hm : sec.length ≤ 2048) (hn : N.length < n) : cmE p n h (shL N) = 5 ∧ cmL p n h (shL N) = [] := by
  obtain ⟨F, h1, h2, h3⟩ := H.ex
  have := cm_few h1 P.pl hm hn
  exact ⟨this, cmL_no (by rw [this]; decide)⟩
theorem Made.ft {p n h : Nat} {sec : List Nat} {N : List ShN} (H : Made p n h sec N) (P : PlanN p n h) (hm : sec.length ≤ 2048) : ftB p n h (shL N) = true := by
  obtain ⟨F, h1, h2, h3⟩ := H.ex
  exact ft_on h1 P.pr P.pl hm h2
theorem deal_Made {p n h : Nat} {sec ran : List Nat} (P : PlanN p n h) (hs : ∀ x ∈ sec, x < p) (hr : ∀ x ∈ ran, x < p) : Made p n h sec (dealN p n h sec ran) :=
  ⟨_, deal_on, fun _ _ => polN_le P.n1, deal_sec P.p1 hs hr⟩

def DealR (N : List ShN) (h : Nat) (w : World) (e : Ending) (w' : World) : Prop :=
  ∃ A c, e = .returned (.tuple #[.slice A h c, .int .i64 0]) ∧ ShP (fun b => w.heap.size ≤ b) w' A c (shL N) ∧ Below w.heap.size w w'
theorem deal_made {p n h : Nat} {A B : Option Addr} {ca cb k j : Nat} {sec ran : List Nat} {w : World} (P : PlanN p n h) (hB : Bases w) (hA : NatsAt w A sec) (hR : NatsAt w B ran) (hok : SlOK B cb ran)
    (hm : sec.length ≤ 2048) (hs : ∀ x ∈ sec, x < p) (hr : ∀ x ∈ ran, x < p) (hl : ran.length = sec.length * (n - 1)) (hl2 : ran.length ≤ 1048576) (hk : k = sec.length) (hj : j = ran.length) :
    Calls Tryd.prog 20 #[planV p n h, .slice A k ca, .slice B j cb] w (DealR (dealN p n h sec ran) h w) := by
  subst hk hj
  refine (deal_nats P.pv hB hA hR hok P.pl hm hs hr hl hl2).mono ?_
  rintro e w' ⟨A', c', rfl, h1, h2⟩
  exact ⟨A', c', by rw [shL_len, deal_len], h1, h2⟩

def Part (M N : List ShN) : Prop := ∃ M' : List ShN, M'.Perm N ∧ M = M'.take M.length
theorem Made.part {p n h : Nat} {sec : List Nat} {N M : List ShN} (H : Made p n h sec N) (hs : Part M N) : Made p n h sec M := by
  obtain ⟨M', h1, h2⟩ := hs
  rw [h2]; exact (H.perm h1).take _
def TurnM (D : Nat) (N : List ShN) (least : Nat) (w : World) (e : Ending) (w' : World) : Prop :=
  ∃ (A : Option Addr) (c : Nat) (M : List ShN) (R' : List Int), e = .returned (.slice A M.length c) ∧ Part M N ∧ M.length ≤ N.length ∧ (least ≤ N.length → least ≤ M.length) ∧ ShP (· ≠ D) w' A c (shL M) ∧ DiceAt w' D R' ∧ w.grownBy w' (some D)
theorem unshL {N : List ShN} {Q : List Shr} (hq : Q.Perm (shL N)) : ∃ M, Q = shL M ∧ M.length = N.length ∧ M.Perm N := by
  have hm : ∀ {Q T : List Shr}, Q.Perm T → ∀ N, T = shL N → ∃ M, Q = shL M ∧ M.Perm N := by
    intro Q T h
    induction h with
    | nil => intro N hN; exact ⟨[], rfl, by cases N with | nil => exact .nil | cons a t => simp [shL] at hN⟩
    | @cons x l1 l2 h ih => intro N hN; cases N with
      | nil => simp [shL] at hN
      | cons a t =>
        have hN' : x = shI a ∧ l2 = shL t := by simpa [shL] using hN
        obtain ⟨M, rfl, hM⟩ := ih t hN'.2
        exact ⟨a :: M, by rw [hN'.1]; rfl, hM.cons a⟩
    | swap x y l => intro N hN; cases N with
      | nil => simp [shL] at hN
      | cons a t => cases t with
        | nil => simp [shL] at hN
        | cons b u =>
          have hN' : x = shI a ∧ y = shI b ∧ l = shL u := by simpa [shL] using hN
          exact ⟨b :: a :: u, by rw [hN'.1, hN'.2.1, hN'.2.2]; rfl, .swap a b u⟩
    | trans h1 h2 ih1 ih2 => intro N hN; obtain ⟨M, e, hM⟩ := ih2 N hN; obtain ⟨K, e2, hK⟩ := ih1 M e; exact ⟨K, e2, hK.trans hM⟩
  obtain ⟨M, e, h⟩ := hm hq N rfl
  exact ⟨M, e, h.length_eq, h⟩
theorem turn_made {P : Nat → Prop} (D : Nat) (R : List Int) (A : Option Addr) (c k : Nat) (N : List ShN) (least : Nat) (w : World) (hd : DiceAt w D R) (hS : ShP P w A c (shL N)) (hsh : Short (shL N)) (hl : N.length ≤ 100000) (hle : least ≤ 100000) (hk : k = N.length) :
    Calls Tryd.prog 26 #[.pointer (some ⟨D, 0, none⟩), .slice A k c, .int .i64 (least : Int)] w (TurnM D N least w) := by
  rw [hk, ← shL_len]
  refine (turn_any D R A c (shL N) least w hd hS hsh (by rw [shL_len]; exact hl) hle).mono ?_
  rintro e w' ⟨A', c', m, Q, R', rfl, hq, hm, hlm, h1, h2, h3⟩
  obtain ⟨M, rfl, hM, hp⟩ := unshL hq
  rw [shL_len] at hm hlm
  have hl' : (M.take m).length = m := by rw [List.length_take]; omega
  rw [shL_take] at h1
  exact ⟨A', c', M.take m, R', by rw [hl'], ⟨M, hp, by rw [hl']⟩, by omega, by omega, h1, h2, h3⟩

theorem combine_made {p n h : Nat} {sec : List Nat} {N : List ShN} {P : Nat → Prop} (H : Made p n h sec N) (PN : PlanN p n h) (A : Option Addr) (c k : Nat) (w : World) (hB : Bases w) (hS : ShP P w A c (shL N)) (hm : sec.length ≤ 2048) (hl : N.length ≤ 1048576) (hk : k = N.length) (hn : n ≤ N.length) :
    Calls Tryd.prog 27 #[planV p n h, .slice A k c] w (ListErr sec 0 w) := by
  have h1 := H.cm PN hm hn
  have := combine_any p n h A c (shL N) w PN.pv hB hS (H.short (by omega)) (by rw [shL_len]; exact hl)
  rw [h1.1, h1.2, shL_len, ← hk] at this
  exact this
theorem combine_few {p n h : Nat} {sec : List Nat} {N : List ShN} {P : Nat → Prop} (H : Made p n h sec N) (PN : PlanN p n h) (A : Option Addr) (c k : Nat) (w : World) (hB : Bases w) (hS : ShP P w A c (shL N)) (hm : sec.length ≤ 2048) (hl : N.length ≤ 1048576) (hk : k = N.length) (hn : N.length < n) :
    Calls Tryd.prog 27 #[planV p n h, .slice A k c] w (ListErr [] 5 w) := by
  have h1 := H.few PN hm hn
  have := combine_any p n h A c (shL N) w PN.pv hB hS (H.short (by omega)) (by rw [shL_len]; exact hl)
  rw [h1.1, h1.2, shL_len, ← hk] at this
  exact this
theorem fits_made {p n h : Nat} {sec : List Nat} {N : List ShN} {P : Nat → Prop} (H : Made p n h sec N) (PN : PlanN p n h) (A : Option Addr) (c k : Nat) (w : World) (hB : Bases w) (hS : ShP P w A c (shL N)) (hm : sec.length ≤ 2048) (hl : N.length ≤ 1048576) (hk : k = N.length) :
    Calls Tryd.prog 29 #[planV p n h, .slice A k c] w (RetB (.bool true) w) := by
  have h1 := H.ft PN hm
  have := fits_any p n h A c (shL N) w PN.pv hB hS (H.short (by omega)) (by rw [shL_len]; exact hl)
  rw [h1, shL_len, ← hk] at this
  exact this
theorem below_drewT (w : World) : Below w.heap.size w w.drew := below_drewN (Below.refl _ w) 1
theorem ShP.drewT {P : Nat → Prop} {w : World} {A : Option Addr} {c : Nat} {S : List Shr} (h : ShP P w A c S) : ShP P w.drew A c S := h.below (below_drewT w)
theorem Held.drewT {w : World} {D : Nat} {A : Option Addr} {c : Nat} {L : List Nat} (h : Held w D A c L) : Held w.drew D A c L := h.below (below_drewT w)
theorem Env.drewT {w0 w : World} {D : Nat} {R : List Int} (h : Env w0 w D R) : Env w0 w.drew D R := h.mv (below_drewT w)
/-- Two equal lists. -/
theorem same_at (A A' : Option Addr) (L : List Nat) (k k' c c' : Nat) (w : World) (hL : NatsAt w A L) (hM : NatsAt w A' L) (hl : L.length ≤ 1152921504606846976) (hk : k = L.length) (hk' : k' = L.length) :
    Calls Tryd.prog 28 #[.slice A k c, .slice A' k' c'] w (Ret (.bool true) w) := by
  subst hk; subst hk'; exact same_nats A A' L c c' w hL hM hl
theorem ListErr.held {L : List Nat} {er : Int} {w w' : World} {e : Ending} {D : Nat} (h : ListErr L er w e w') (hD : D < w.heap.size) : ∃ A c, e = .returned (.tuple #[.slice A L.length c, .int .i64 er]) ∧ Held w' D A c L ∧ Below w.heap.size w w' := by
  obtain ⟨A, c, rfl, h1, h2, h3, h4⟩ := h
  exact ⟨A, c, rfl, held_new hD h1 h2 h3, h4⟩
end Go.Proofs.YtkjpnhhkebbmdaaDoor
namespace Go.Proofs.YtkjpnhhkebbmdaaDoor
open Go.RowKit

/-- A new share. -/
def NewShr (x : Int) (L : List Nat) (w : World) (e : Ending) (w' : World) : Prop :=
  ∃ A c, e = .returned (shV x (.slice A L.length c)) ∧ NatsAt w' A L ∧ SlOK A c L ∧ (∀ b off, A = some ⟨b, off, none⟩ → w.heap.size ≤ b ∧ b < w'.heap.size) ∧ Below w.heap.size w w'
def NewShrE (x : Int) (L : List Nat) (er : Int) (w : World) (e : Ending) (w' : World) : Prop :=
  ∃ A c, e = .returned (.tuple #[shV x (.slice A L.length c), .int .i64 er]) ∧ NatsAt w' A L ∧ SlOK A c L ∧ (∀ b off, A = some ⟨b, off, none⟩ → w.heap.size ≤ b ∧ b < w'.heap.size) ∧ Below w.heap.size w w'
theorem results_shr {fn : Func} {t : Tmp} (h : fn.results = #[.cell t 47]) (tmps : Array Value) (w : World) (g : Nat) (hp : tmps.getD t undef = .pointer (some ⟨g, 0, none⟩)) {x : Int} {v : Value} (hX : ShCell w g x v) :
    (results fn tmps).run Tryd.prog w = .ok (shV x v) w :=
  results_cell_row h tmps w g 47 _ (0, 0) _ hp hX Tryd.underlying47 rfl (by kernel_rfl)
theorem results_shr2 {fn : Func} {t u : Tmp} (h : fn.results = #[.cell t 47, .tmp u]) (tmps : Array Value) (w : World) (g : Nat) (hp : tmps.getD t undef = .pointer (some ⟨g, 0, none⟩)) {x : Int} {v : Value} (hX : ShCell w g x v) :
    (results fn tmps).run Tryd.prog w = .ok (.tuple #[shV x v, tmps.getD u undef]) w := by
  have hp' : tmps[t]?.getD undef = .pointer (some ⟨g, 0, none⟩) := by simpa using hp
  have hr := run_loadVar_row (P := Tryd.prog) w g 47 47 _ (0, 0) _ hX Tryd.underlying47 rfl (by kernel_rfl)
  simp [results, h, hp', asAddr, hr]
theorem linear_list (p : Nat) (A B : Option Addr) (L M : List Nat) (ca cb c : Nat) (w : World) (hp : 1 ≤ p) (hp2 : p ≤ 2147483648) (hA : NatsAt w A L) (hB : NatsAt w B M)
    (hL : ∀ x ∈ L, x < p) (hM : ∀ x ∈ M, x < p) (hc : c < p) (hl : L.length ≤ 1073741824) (hm : M.length ≤ 1073741824) :
    Calls Tryd.prog 60 #[.int .i64 p, .slice A L.length ca, .slice B M.length cb, .int .i64 c] w (NewList (linN p L M c) w) :=
  (linear_any p A B L M ca cb c w hp hp2 hA hB hL hM hc hl hm).mono fun _ _ h => h.list (by rw [linN_len]; unfold maxLen; omega)
theorem ShCell.lt {w : World} {g : Nat} {x : Int} {v : Value} (H : ShCell w g x v) : g < w.heap.size := blk_lt H
theorem keep_set2 {w : World} {g a b : Nat} {u v : Value} {q : Addr} {x : Value} (hq : q.block ≠ g) (h : w.cell? q = some x) : ((w.setCell ⟨g, a, none⟩ u).setCell ⟨g, b, none⟩ v).cell? q = some x :=
  ((World.cell?_setCell_other _ _ _ _ (fun e => hq (by subst e; rfl))).trans (World.cell?_setCell_other _ _ _ _ (fun e => hq (by subst e; rfl)))).trans h
theorem size_set2 {w : World} {a b : Addr} {u v : Value} : ((w.setCell a u).setCell b v).heap.size = w.heap.size := by simp [World.setCell]
theorem shcell_fill {w : World} {g : Nat} {x : Int} {v : Value} (H : ShCell w g x v) (y : Int) (u : Value) : ShCell ((w.setCell ⟨g, 0, none⟩ (.int .i64 y)).setCell ⟨g, 1, none⟩ u) g y u := (H.set0 y).set1 u
theorem nats_set2 {w : World} {g a b : Nat} {u v : Value} {A : Option Addr} {L : List Nat} (h : NatsAt w A L) (hA : ∀ b off, A = some ⟨b, off, none⟩ → b ≠ g) : NatsAt ((w.setCell ⟨g, a, none⟩ u).setCell ⟨g, b, none⟩ v) A L := fun k hk => by
  obtain ⟨b1, off, e, hlt, hc⟩ := h k hk
  exact ⟨b1, off, e, by rw [size_set2]; exact hlt, keep_set2 (hA b1 off e) hc⟩
theorem below_set2 {w w' : World} {B g a b : Nat} (h : Below B w w') (hg : B ≤ g) (u v : Value) : Below B w ((w'.setCell ⟨g, a, none⟩ u).setCell ⟨g, b, none⟩ v) :=
  ⟨h.os, h.tape, h.output, by rw [size_set2]; exact h.size, fun k hk => ((Below.heap_setCell _ _ _ k (by dsimp only; omega)).trans (Below.heap_setCell _ _ _ k (by dsimp only; omega))).trans (h.block k hk)⟩
/-- The plan, both shares, the result. -/
structure AddW (w w' : World) (p n h x : Int) (v : Value) (y : Int) (u : Value) : Prop where
  pl : PlanCell w' w.heap.size p n h
  a : ShCell w' (w.heap.size + 1) x v
  b : ShCell w' (w.heap.size + 1 + 1) y u
  r : ShCell w' (w.heap.size + 1 + 1 + 1) 0 (.slice none 0 0)
  be : Below w.heap.size w w'
theorem AddW.below {w w' w2 : World} {p n h x : Int} {v : Value} {y : Int} {u : Value} (H : AddW w w' p n h x v y u) (hb : Below w'.heap.size w' w2) : AddW w w2 p n h x v y u :=
  ⟨H.pl.below hb, H.a.below hb, H.b.below hb, H.r.below hb, below_trans H.be hb⟩
theorem AddW.start (w : World) (p n h x : Int) (v : Value) (y : Int) (u : Value) : AddW w ((((w.alloc (.cells #[.int .i64 p, .int .i64 n, .int .i64 h] 24)).alloc (.cells #[.int .i64 x, v] 47)).alloc (.cells #[.int .i64 y, u] 47)).alloc (.cells #[.int .i64 0, .slice none 0 0] 47)) p n h x v y u :=
  ⟨(((PlanCell.new _ _ _ rfl).alloc _).alloc _).alloc _, ((ShCell.new _ _ (by simp)).alloc _).alloc _, (ShCell.new _ _ (by simp)).alloc _, ShCell.new _ _ (by simp),
    below_trans (below_trans (below_trans (below_alloc _ _) (below_alloc _ _)) (below_alloc _ _)) (below_alloc _ _)⟩
theorem AddW.bases {w : World} {a b c d : Obj} (hB : Bases w) : Bases ((((w.alloc a).alloc b).alloc c).alloc d) :=
  hB.below (below_trans (below_trans (below_trans (below_alloc w a) (below_alloc _ b)) (below_alloc _ c)) (below_alloc _ d)) hB.1
def AdP (p n h x y : Int) (L M : List Int) : Prop := plB p n h = true ∧ stB p h x L = true ∧ stB p h y M = true ∧ x = y ∧ L.length = M.length
instance (p n h x y : Int) (L M : List Int) : Decidable (AdP p n h x y L M) := by unfold AdP; exact inferInstance
def adE (p n h x y : Int) (L M : List Int) : Int := if AdP p n h x y L M then 0 else 1
def adX (p n h x y : Int) (L M : List Int) : Int := if AdP p n h x y L M then x else 0
def adL (p n h x y : Int) (L M : List Int) : List Nat := if AdP p n h x y L M then linN p.toNat (L.map Int.toNat) (M.map Int.toNat) 1 else []
theorem adE_ok {p n h x y : Int} {L M : List Int} (H : AdP p n h x y L M) : adE p n h x y L M = 0 := if_pos H
theorem adX_ok {p n h x y : Int} {L M : List Int} (H : AdP p n h x y L M) : adX p n h x y L M = x := if_pos H
theorem adL_ok {p : Nat} {n h x y : Int} {L M : List Int} (H : AdP p n h x y L M) : adL p n h x y L M = linN p (L.map Int.toNat) (M.map Int.toNat) 1 := if_pos H
theorem ad_no {p n h x y : Int} {L M : List Int} (H : ¬ AdP p n h x y L M) : adE p n h x y L M = 1 ∧ adX p n h x y L M = 0 ∧ adL p n h x y L M = [] := ⟨if_neg H, if_neg H, if_neg H⟩
theorem NewShrE.no {w w' : World} (hb : Below w.heap.size w w') : NewShrE 0 [] 1 w (.returned (.tuple #[shV 0 (.slice none 0 0), .int .i64 1])) w' :=
  ⟨none, 0, rfl, NatsAt.nil _ _, SlOK.none0, fun _ _ e => (by cases e), hb⟩
theorem plB_nat {p n h : Int} (H : plB p n h = true) (hv : primeV p = validI p) : ∃ q : Nat, p = (q : Int) ∧ 1 ≤ q ∧ q ≤ 2147483648 := by
  obtain ⟨q, h1, h2, h3⟩ := plan_prime (of_decide_eq_true H) hv
  have := h2.1
  exact ⟨q, h1, by omega, by omega⟩
theorem plB_two {p : Nat} {n h : Int} (H : plB p n h = true) : 1 < p := by
  have : PlanP p n h := of_decide_eq_true H
  obtain ⟨h1, h2, h3, h4, -⟩ := this
  omega
theorem plB_pv {p n h : Int} (H : plB p n h = true) (hv : primeV p = validI p) : primeV p = true := by
  have : PlanP p n h := of_decide_eq_true H
  rw [hv]; exact this.2.2.2.2

set_option maxRecDepth 100000 in
set_option maxHeartbeats 2000000 in
theorem scale_any (p : Nat) (n h x : Int) (B : Option Addr) (L : List Nat) (cb c : Nat) (w : World) (hp1 : 1 ≤ p) (hp2 : p ≤ 2147483648) (hI : NatsAt w B L) (hL : ∀ y ∈ L, y < p) (hc : c < p) (hl : L.length ≤ 1048576) :
    Calls Tryd.prog 37 #[planV p n h, shV x (.slice B L.length cb), .int .i64 c] w (NewShr x (linN p [] L c) w) := by
  have HI := Lib.hid hI
  have HL := Lib.hid hL
  clear hI hL
  go_enter Tryd.func37, Tryd.ntmps37
  go_wp2_with fail
  refine gen_world fun w1 hw1 => ?_
  have hP : PlanCell w1 w.heap.size p n h := by rw [hw1]; exact ((PlanCell.new _ _ _ rfl).alloc _).alloc _
  have hS : ShCell w1 (w.heap.size + 1) x (.slice B L.length cb) := by rw [hw1]; exact (ShCell.new _ _ (by simp)).alloc _
  have hR : ShCell w1 (w.heap.size + 1 + 1) 0 (.slice none 0 0) := by rw [hw1]; exact ShCell.new _ _ (by simp)
  have hb1 : Below w.heap.size w w1 := by rw [hw1]; exact below_trans (below_trans (below_alloc _ _) (below_alloc _ _)) (below_alloc _ _)
  have hlt := hR.lt
  have p0 := hP.c0
  have s0 := hS.c0
  have s1 := hS.c1
  have HP := Lib.hid hP
  have HS := Lib.hid hS
  have HR := Lib.hid hR
  have HI1 := Lib.hid (HI.out.below hb1)
  have HB1 := Lib.hid hb1
  clear hP hS hR hb1 hw1
  go_region_held3 (fun w' => w'.cell? ⟨w.heap.size, 0, none⟩ = some (.int .i64 (p : Int)) ∧ w'.cell? ⟨w.heap.size + 1, 0, none⟩ = some (.int .i64 x) ∧ w'.cell? ⟨w.heap.size + 1, 1, none⟩ = some (.slice B L.length cb)) (first | (go_keep; done) | (refine ⟨?_, ?_, ?_⟩ <;> (first | (go_keep; done) | (refine keep_set2 (by dsimp only; omega) ?_; assumption) | (refine keep_set2 (by dsimp only; omega) ?_; go_keep))))
    ((go_at_call 60; refine (linear_list p none B [] L 0 cb c _ hp1 hp2 (NatsAt.nil _ _) (by exact HI1.out.below (below_drewT _)) (by simp) HL.out hc (by simp) (by omega)).mono ?_; intro e w5 he; obtain ⟨A6, c6, rfl, hN6, hS6, hO6, hb6⟩ := he.open_; have hb5 : Below w1.heap.size w1 w5 := (below_undrew1 hb6); have HR5 := Lib.hid (HR.out.below hb5); have f0 := HR5.out.frozen 0; have f1 := HR5.out.frozen 1; have r0 := HR5.out.c0; have r1 := HR5.out.c1; have t0 := (HP.out.below hb5).c0; have t1 := (HS.out.below hb5).c0; have t2 := (HS.out.below hb5).c1))
  go_wp2_with fail
  refine bodyPost_ret (results_shr rfl _ _ (w.heap.size + 1 + 1) rfl (shcell_fill HR5.out x _)) rfl ⟨A6, c6, rfl, nats_set2 hN6 (fun b off e => by have := hO6 b off e; rw [World.size_drew] at this; omega), hS6, fun b off e => ?_, ?_⟩
  · have := hO6 b off e
    rw [World.size_drew] at this
    rw [size_set2]
    exact ⟨Nat.le_trans HB1.out.size this.1, this.2⟩
  · exact below_set2 (below_trans HB1.out hb5) (by omega) _ _

set_option maxRecDepth 100000 in
set_option maxHeartbeats 2000000 in
theorem refScale_any (p : Nat) (n h x : Int) (B : Option Addr) (L : List Nat) (cb c : Nat) (w : World) (hp1 : 1 ≤ p) (hp2 : p ≤ 2147483648) (hI : NatsAt w B L) (hL : ∀ y ∈ L, y < p) (hc : c < p) (hl : L.length ≤ 1048576) :
    Calls Tryd.prog 38 #[planV p n h, shV x (.slice B L.length cb), .int .i64 c] w (NewShr x (linN p [] L c) w) := by
  have HI := Lib.hid hI
  have HL := Lib.hid hL
  clear hI hL
  go_enter Tryd.func38, Tryd.ntmps38
  go_wp2_with fail
  refine gen_world fun w1 hw1 => ?_
  have hP : PlanCell w1 w.heap.size p n h := by rw [hw1]; exact ((PlanCell.new _ _ _ rfl).alloc _).alloc _
  have hS : ShCell w1 (w.heap.size + 1) x (.slice B L.length cb) := by rw [hw1]; exact (ShCell.new _ _ (by simp)).alloc _
  have hR : ShCell w1 (w.heap.size + 1 + 1) 0 (.slice none 0 0) := by rw [hw1]; exact ShCell.new _ _ (by simp)
  have hb1 : Below w.heap.size w w1 := by rw [hw1]; exact below_trans (below_trans (below_alloc _ _) (below_alloc _ _)) (below_alloc _ _)
  have hlt := hR.lt
  have p0 := hP.c0
  have s0 := hS.c0
  have s1 := hS.c1
  have HP := Lib.hid hP
  have HS := Lib.hid hS
  have HR := Lib.hid hR
  have HI1 := Lib.hid (HI.out.below hb1)
  have HB1 := Lib.hid hb1
  clear hP hS hR hb1 hw1
  go_region_held3 (fun w' => w'.cell? ⟨w.heap.size, 0, none⟩ = some (.int .i64 (p : Int)) ∧ w'.cell? ⟨w.heap.size + 1, 0, none⟩ = some (.int .i64 x) ∧ w'.cell? ⟨w.heap.size + 1, 1, none⟩ = some (.slice B L.length cb)) (first | (go_keep; done) | (refine ⟨?_, ?_, ?_⟩ <;> (first | (go_keep; done) | (refine keep_set2 (by dsimp only; omega) ?_; assumption) | (refine keep_set2 (by dsimp only; omega) ?_; go_keep))))
    ((go_at_call 39; refine (refLinear_any p none B [] L 0 cb c _ hp1 hp2 (NatsAt.nil _ _) (by exact HI1.out.below (below_drewT _)) (by simp) HL.out hc (by simp) (by omega)).mono ?_; intro e w5 he; obtain ⟨A6, c6, rfl, hN6, hS6, hO6, hb6⟩ := he.open_; have hb5 : Below w1.heap.size w1 w5 := (below_undrew1 hb6); have HR5 := Lib.hid (HR.out.below hb5); have f0 := HR5.out.frozen 0; have f1 := HR5.out.frozen 1; have r0 := HR5.out.c0; have r1 := HR5.out.c1; have t0 := (HP.out.below hb5).c0; have t1 := (HS.out.below hb5).c0; have t2 := (HS.out.below hb5).c1))
  go_wp2_with fail
  refine bodyPost_ret (results_shr rfl _ _ (w.heap.size + 1 + 1) rfl (shcell_fill HR5.out x _)) rfl ⟨A6, c6, rfl, nats_set2 hN6 (fun b off e => by have := hO6 b off e; rw [World.size_drew] at this; omega), hS6, fun b off e => ?_, ?_⟩
  · have := hO6 b off e
    rw [World.size_drew] at this
    rw [size_set2]
    exact ⟨Nat.le_trans HB1.out.size this.1, this.2⟩
  · exact below_set2 (below_trans HB1.out hb5) (by omega) _ _

set_option maxRecDepth 100000 in
set_option maxHeartbeats 4000000 in
theorem addS_ok (p : Nat) (n h x : Int) (B B' : Option Addr) (L M : List Nat) (cb cb' k : Nat) (w : World) (hp1 : 1 ≤ p) (hp2 : p ≤ 2147483648) (_ : primeV p = validI p) (hB : Bases w) (hpl : plB p n h = true) (hsa : stB p h x (ofN L) = true) (hsb : stB p h x (ofN M) = true) (hkL : k = L.length) (hkM : k = M.length) (hLp : ∀ y ∈ L, y < p) (hMp : ∀ y ∈ M, y < p) (hI : IntsAt w B (ofN L)) (hJ : IntsAt w B' (ofN M)) (hl : k ≤ 1048576) :
    Calls Tryd.prog 35 #[planV p n h, shV x (.slice B k cb), shV x (.slice B' k cb')] w (NewShrE x (linN p L M 1) 0 w) := by
  have HI := Lib.hid hI
  have HJ := Lib.hid hJ
  have HLp := Lib.hid hLp
  have HMp := Lib.hid hMp
  have HB := Lib.hid hB
  clear hB
  have HV := Lib.hid (fun (W : World) (hB : Bases W) => by have := valid_plan p n h W hB; rw [hpl] at this; exact this)
  have HSA := Lib.hid (fun (W : World) (hI : IntsAt W B (ofN L)) => by have := stands_any p n h x B (ofN L) cb W hI (by rw [len_ofN]; omega); rw [hsa, len_ofN, ← hkL] at this; exact this)
  have HSB := Lib.hid (fun (W : World) (hI : IntsAt W B' (ofN M)) => by have := stands_any p n h x B' (ofN M) cb' W hI (by rw [len_ofN]; omega); rw [hsb, len_ofN, ← hkM] at this; exact this)
  have HKL := Lib.hid hkL
  have HKM := Lib.hid hkM
  have hLl : L.length ≤ 1048576 := by omega
  have hMl : M.length ≤ 1048576 := by omega
  have h1p : 1 < p := plB_two hpl
  clear hI hJ hLp hMp hkL hkM
  have HLIN := Lib.hid (fun (W : World) (h1 : NatsAt W B L) (h2 : NatsAt W B' M) => by have := linear_list p B B' L M cb cb' 1 W hp1 hp2 h1 h2 HLp.out HMp.out h1p (by omega) (by omega); rw [← HKL.out, ← HKM.out] at this; exact this)
  go_enter Tryd.func35, Tryd.ntmps35
  go_wp2_with fail
  refine ret_below (HV.out _ (AddW.bases HB.out)) ?_
  intro w2 hb2
  have HW2 := Lib.hid ((AddW.start w _ _ _ _ _ _ _).below hb2)
  have x20 := HW2.out.pl.c0
  have x21 := HW2.out.pl.c1
  have x22 := HW2.out.pl.c2
  have x23 := HW2.out.a.c0
  have x24 := HW2.out.a.c1
  have x25 := HW2.out.b.c0
  have x26 := HW2.out.b.c1
  clear hb2
  go_wp2_with fail
  refine ret_below (HSA.out _ (HI.out.below HW2.out.be)) ?_
  intro w3 hb3
  have HW3 := Lib.hid (HW2.out.below hb3)
  have x30 := HW3.out.pl.c0
  have x31 := HW3.out.pl.c1
  have x32 := HW3.out.pl.c2
  have x33 := HW3.out.a.c0
  have x34 := HW3.out.a.c1
  have x35 := HW3.out.b.c0
  have x36 := HW3.out.b.c1
  clear x20 x21 x22 x23 x24 x25 x26
  clear hb3
  go_wp2_with fail
  refine ret_below (HSB.out _ (HJ.out.below HW3.out.be)) ?_
  intro w4 hb4
  have HW4 := Lib.hid (HW3.out.below hb4)
  have x40 := HW4.out.pl.c0
  have x41 := HW4.out.pl.c1
  have x42 := HW4.out.pl.c2
  have x43 := HW4.out.a.c0
  have x44 := HW4.out.a.c1
  have x45 := HW4.out.b.c0
  have x46 := HW4.out.b.c1
  clear x30 x31 x32 x33 x34 x35 x36
  clear hb4
  have hlt := HW4.out.r.lt
  have f0 := HW4.out.r.frozen 0
  have f1 := HW4.out.r.frozen 1
  have r0 := HW4.out.r.c0
  have r1 := HW4.out.r.c1
  go_wp2_with fail
  go_region_held3 (fun w' => w'.cell? ⟨w.heap.size, 0, none⟩ = some (.int .i64 (p : Int)) ∧ w'.cell? ⟨w.heap.size + 1, 0, none⟩ = some (.int .i64 x) ∧ w'.cell? ⟨w.heap.size + 1, 1, none⟩ = some (.slice B k cb) ∧ w'.cell? ⟨w.heap.size + 1 + 1, 1, none⟩ = some (.slice B' k cb')) (first | (go_keep; done) | (refine ⟨?_, ?_, ?_, ?_⟩ <;> (first | (go_keep; done) | (refine keep_set2 (by dsimp only; omega) ?_; assumption) | (refine keep_set2 (by dsimp only; omega) ?_; go_keep))))
    ((go_at_call 60; refine (HLIN.out _ ((HI.out.below HW4.out.be).nats.below (below_drewT _)) ((HJ.out.below HW4.out.be).nats.below (below_drewT _))).mono ?_; intro e w5 he; obtain ⟨A6, c6, rfl, hN6, hS6, hO6, hb6⟩ := he.open_; have hb5 : Below w4.heap.size w4 w5 := (below_undrew1 hb6); have HW5 := Lib.hid (HW4.out.below hb5); have x50 := HW5.out.pl.c0; have x51 := HW5.out.pl.c1; have x52 := HW5.out.pl.c2; have x53 := HW5.out.a.c0; have x54 := HW5.out.a.c1; have x55 := HW5.out.b.c0; have x56 := HW5.out.b.c1; have g0 := HW5.out.r.frozen 0; have g1 := HW5.out.r.frozen 1; have v0 := HW5.out.r.c0; have v1 := HW5.out.r.c1; have hO6' : ∀ b off, A6 = some ⟨b, off, none⟩ → w4.heap.size ≤ b ∧ b < w5.heap.size := (fun b off e => by have := hO6 b off e; rw [World.size_drew] at this; exact this)))
  go_wp2_with fail
  refine bodyPost_ret (results_shr2 rfl _ _ (w.heap.size + 1 + 1 + 1) rfl (shcell_fill HW5.out.r x _)) rfl ⟨A6, c6, rfl, nats_set2 hN6 (fun b off e => by have := hO6' b off e; omega), hS6, fun b off e => ?_, ?_⟩
  · have := hO6' b off e
    rw [size_set2]
    exact ⟨Nat.le_trans HW4.out.be.size this.1, this.2⟩
  · exact below_set2 HW5.out.be (by omega) _ _

set_option maxRecDepth 100000 in
set_option maxHeartbeats 4000000 in
theorem addS_any (p n h x y : Int) (B B' : Option Addr) (L M : List Int) (cb cb' : Nat) (w : World) (hv : primeV p = validI p) (hB : Bases w) (hI : IntsAt w B L) (hJ : IntsAt w B' M) (hl : L.length ≤ 1048576) (hm : M.length ≤ 1048576) :
    Calls Tryd.prog 35 #[planV p n h, shV x (.slice B L.length cb), shV y (.slice B' M.length cb')] w (NewShrE (adX p n h x y L M) (adL p n h x y L M) (adE p n h x y L M) w) := by
  by_cases hok : AdP p n h x y L M
  · have hok' := hok
    obtain ⟨hpl, hsa, hsb, rfl, hlen⟩ := hok
    obtain ⟨q, rfl, hq1, hq2⟩ := plB_nat hpl hv
    have h1 := inside_nat (stB_bd hsa).2.2
    have h2 := inside_nat (stB_bd hsb).2.2
    have := addS_ok q n h x B B' (L.map Int.toNat) (M.map Int.toNat) cb cb' L.length w hq1 hq2 hv hB hpl (by rw [h1.1]; exact hsa) (by rw [h2.1]; exact hsb) (by simp) (by simpa using hlen) h1.2 h2.2 (by rw [h1.1]; exact hI) (by rw [h2.1]; exact hJ) hl
    rw [adX_ok hok', adL_ok hok', adE_ok hok', ← hlen]
    exact this
  · have HE := Lib.hid (ad_no hok)
    have HI := Lib.hid hI
    have HJ := Lib.hid hJ
    have HB := Lib.hid hB
    clear hB
    by_cases hpl : plB p n h = true
    · by_cases hsa : stB p h x L = true
      · by_cases hsb : stB p h y M = true
        · by_cases hxy : x = y
          · subst hxy
            have hlen : ¬ L.length = M.length := fun e => hok ⟨hpl, hsa, hsb, rfl, e⟩
            have HV := Lib.hid (fun (W : World) (hB : Bases W) => by have := valid_plan p n h W hB; rw [hpl] at this; exact this)
            have HSA := Lib.hid (fun (W : World) (hI : IntsAt W B L) => by have := stands_any p n h x B L cb W hI (by omega); rw [hsa] at this; exact this)
            have HSB := Lib.hid (fun (W : World) (hI : IntsAt W B' M) => by have := stands_any p n h x B' M cb' W hI (by omega); rw [hsb] at this; exact this)
            clear hI hJ
            go_enter Tryd.func35, Tryd.ntmps35
            go_wp2_with fail
            refine ret_below (HV.out _ (AddW.bases HB.out)) ?_
            intro w2 hb2
            have HW2 := Lib.hid ((AddW.start w _ _ _ _ _ _ _).below hb2)
            have x20 := HW2.out.pl.c0
            have x21 := HW2.out.pl.c1
            have x22 := HW2.out.pl.c2
            have x23 := HW2.out.a.c0
            have x24 := HW2.out.a.c1
            have x25 := HW2.out.b.c0
            have x26 := HW2.out.b.c1
            clear hb2
            go_wp2_with fail
            refine ret_below (HSA.out _ (HI.out.below HW2.out.be)) ?_
            intro w3 hb3
            have HW3 := Lib.hid (HW2.out.below hb3)
            have x30 := HW3.out.pl.c0
            have x31 := HW3.out.pl.c1
            have x32 := HW3.out.pl.c2
            have x33 := HW3.out.a.c0
            have x34 := HW3.out.a.c1
            have x35 := HW3.out.b.c0
            have x36 := HW3.out.b.c1
            clear x20 x21 x22 x23 x24 x25 x26
            clear hb3
            go_wp2_with fail
            refine ret_below (HSB.out _ (HJ.out.below HW3.out.be)) ?_
            intro w4 hb4
            have HW4 := Lib.hid (HW3.out.below hb4)
            have x40 := HW4.out.pl.c0
            have x41 := HW4.out.pl.c1
            have x42 := HW4.out.pl.c2
            have x43 := HW4.out.a.c0
            have x44 := HW4.out.a.c1
            have x45 := HW4.out.b.c0
            have x46 := HW4.out.b.c1
            clear x30 x31 x32 x33 x34 x35 x36
            clear hb4
            have hlt := HW4.out.r.lt
            have f0 := HW4.out.r.frozen 0
            have f1 := HW4.out.r.frozen 1
            have r0 := HW4.out.r.c0
            have r1 := HW4.out.r.c1
            go_wp2_with fail
            refine bodyPost_ret (results_shr2 rfl _ _ (w.heap.size + 1 + 1 + 1) rfl (shcell_fill HW4.out.r 0 _)) rfl ?_
            rw [HE.out.1, HE.out.2.1, HE.out.2.2]
            exact NewShrE.no (below_set2 HW4.out.be (by omega) _ _)
          · clear hok
            have HV := Lib.hid (fun (W : World) (hB : Bases W) => by have := valid_plan p n h W hB; rw [hpl] at this; exact this)
            have HSA := Lib.hid (fun (W : World) (hI : IntsAt W B L) => by have := stands_any p n h x B L cb W hI (by omega); rw [hsa] at this; exact this)
            have HSB := Lib.hid (fun (W : World) (hI : IntsAt W B' M) => by have := stands_any p n h y B' M cb' W hI (by omega); rw [hsb] at this; exact this)
            clear hI hJ
            go_enter Tryd.func35, Tryd.ntmps35
            go_wp2_with fail
            refine ret_below (HV.out _ (AddW.bases HB.out)) ?_
            intro w2 hb2
            have HW2 := Lib.hid ((AddW.start w _ _ _ _ _ _ _).below hb2)
            have x20 := HW2.out.pl.c0
            have x21 := HW2.out.pl.c1
            have x22 := HW2.out.pl.c2
            have x23 := HW2.out.a.c0
            have x24 := HW2.out.a.c1
            have x25 := HW2.out.b.c0
            have x26 := HW2.out.b.c1
            clear hb2
            go_wp2_with fail
            refine ret_below (HSA.out _ (HI.out.below HW2.out.be)) ?_
            intro w3 hb3
            have HW3 := Lib.hid (HW2.out.below hb3)
            have x30 := HW3.out.pl.c0
            have x31 := HW3.out.pl.c1
            have x32 := HW3.out.pl.c2
            have x33 := HW3.out.a.c0
            have x34 := HW3.out.a.c1
            have x35 := HW3.out.b.c0
            have x36 := HW3.out.b.c1
            clear x20 x21 x22 x23 x24 x25 x26
            clear hb3
            go_wp2_with fail
            refine ret_below (HSB.out _ (HJ.out.below HW3.out.be)) ?_
            intro w4 hb4
            have HW4 := Lib.hid (HW3.out.below hb4)
            have x40 := HW4.out.pl.c0
            have x41 := HW4.out.pl.c1
            have x42 := HW4.out.pl.c2
            have x43 := HW4.out.a.c0
            have x44 := HW4.out.a.c1
            have x45 := HW4.out.b.c0
            have x46 := HW4.out.b.c1
            clear x30 x31 x32 x33 x34 x35 x36
            clear hb4
            have hlt := HW4.out.r.lt
            have f0 := HW4.out.r.frozen 0
            have f1 := HW4.out.r.frozen 1
            have r0 := HW4.out.r.c0
            have r1 := HW4.out.r.c1
            go_wp2_with fail
            refine bodyPost_ret (results_shr2 rfl _ _ (w.heap.size + 1 + 1 + 1) rfl (shcell_fill HW4.out.r 0 _)) rfl ?_
            rw [HE.out.1, HE.out.2.1, HE.out.2.2]
            exact NewShrE.no (below_set2 HW4.out.be (by omega) _ _)
        · clear hok
          have hsb' : stB p h y M = false := by simpa using hsb
          have HV := Lib.hid (fun (W : World) (hB : Bases W) => by have := valid_plan p n h W hB; rw [hpl] at this; exact this)
          have HSA := Lib.hid (fun (W : World) (hI : IntsAt W B L) => by have := stands_any p n h x B L cb W hI (by omega); rw [hsa] at this; exact this)
          have HSB := Lib.hid (fun (W : World) (hI : IntsAt W B' M) => by have := stands_any p n h y B' M cb' W hI (by omega); rw [hsb'] at this; exact this)
          clear hI hJ
          go_enter Tryd.func35, Tryd.ntmps35
          go_wp2_with fail
          refine ret_below (HV.out _ (AddW.bases HB.out)) ?_
          intro w2 hb2
          have HW2 := Lib.hid ((AddW.start w _ _ _ _ _ _ _).below hb2)
          have x20 := HW2.out.pl.c0
          have x21 := HW2.out.pl.c1
          have x22 := HW2.out.pl.c2
          have x23 := HW2.out.a.c0
          have x24 := HW2.out.a.c1
          have x25 := HW2.out.b.c0
          have x26 := HW2.out.b.c1
          clear hb2
          go_wp2_with fail
          refine ret_below (HSA.out _ (HI.out.below HW2.out.be)) ?_
          intro w3 hb3
          have HW3 := Lib.hid (HW2.out.below hb3)
          have x30 := HW3.out.pl.c0
          have x31 := HW3.out.pl.c1
          have x32 := HW3.out.pl.c2
          have x33 := HW3.out.a.c0
          have x34 := HW3.out.a.c1
          have x35 := HW3.out.b.c0
          have x36 := HW3.out.b.c1
          clear x20 x21 x22 x23 x24 x25 x26
          clear hb3
          go_wp2_with fail
          refine ret_below (HSB.out _ (HJ.out.below HW3.out.be)) ?_
          intro w4 hb4
          have HW4 := Lib.hid (HW3.out.below hb4)
          have x40 := HW4.out.pl.c0
          have x41 := HW4.out.pl.c1
          have x42 := HW4.out.pl.c2
          have x43 := HW4.out.a.c0
          have x44 := HW4.out.a.c1
          have x45 := HW4.out.b.c0
          have x46 := HW4.out.b.c1
          clear x30 x31 x32 x33 x34 x35 x36
          clear hb4
          have hlt := HW4.out.r.lt
          have f0 := HW4.out.r.frozen 0
          have f1 := HW4.out.r.frozen 1
          have r0 := HW4.out.r.c0
          have r1 := HW4.out.r.c1
          go_wp2_with fail
          refine bodyPost_ret (results_shr2 rfl _ _ (w.heap.size + 1 + 1 + 1) rfl (shcell_fill HW4.out.r 0 _)) rfl ?_
          rw [HE.out.1, HE.out.2.1, HE.out.2.2]
          exact NewShrE.no (below_set2 HW4.out.be (by omega) _ _)
      · clear hok
        have hsa' : stB p h x L = false := by simpa using hsa
        have HV := Lib.hid (fun (W : World) (hB : Bases W) => by have := valid_plan p n h W hB; rw [hpl] at this; exact this)
        have HSA := Lib.hid (fun (W : World) (hI : IntsAt W B L) => by have := stands_any p n h x B L cb W hI (by omega); rw [hsa'] at this; exact this)
        clear hI hJ
        go_enter Tryd.func35, Tryd.ntmps35
        go_wp2_with fail
        refine ret_below (HV.out _ (AddW.bases HB.out)) ?_
        intro w2 hb2
        have HW2 := Lib.hid ((AddW.start w _ _ _ _ _ _ _).below hb2)
        have x20 := HW2.out.pl.c0
        have x21 := HW2.out.pl.c1
        have x22 := HW2.out.pl.c2
        have x23 := HW2.out.a.c0
        have x24 := HW2.out.a.c1
        have x25 := HW2.out.b.c0
        have x26 := HW2.out.b.c1
        clear hb2
        go_wp2_with fail
        refine ret_below (HSA.out _ (HI.out.below HW2.out.be)) ?_
        intro w3 hb3
        have HW3 := Lib.hid (HW2.out.below hb3)
        have x30 := HW3.out.pl.c0
        have x31 := HW3.out.pl.c1
        have x32 := HW3.out.pl.c2
        have x33 := HW3.out.a.c0
        have x34 := HW3.out.a.c1
        have x35 := HW3.out.b.c0
        have x36 := HW3.out.b.c1
        clear x20 x21 x22 x23 x24 x25 x26
        clear hb3
        have hlt := HW3.out.r.lt
        have f0 := HW3.out.r.frozen 0
        have f1 := HW3.out.r.frozen 1
        have r0 := HW3.out.r.c0
        have r1 := HW3.out.r.c1
        go_wp2_with fail
        refine bodyPost_ret (results_shr2 rfl _ _ (w.heap.size + 1 + 1 + 1) rfl (shcell_fill HW3.out.r 0 _)) rfl ?_
        rw [HE.out.1, HE.out.2.1, HE.out.2.2]
        exact NewShrE.no (below_set2 HW3.out.be (by omega) _ _)
    · clear hok
      have hpl' : plB p n h = false := by simpa using hpl
      have HV := Lib.hid (fun (W : World) (hB : Bases W) => by have := valid_plan p n h W hB; rw [hpl'] at this; exact this)
      clear hI hJ
      go_enter Tryd.func35, Tryd.ntmps35
      go_wp2_with fail
      refine ret_below (HV.out _ (AddW.bases HB.out)) ?_
      intro w2 hb2
      have HW2 := Lib.hid ((AddW.start w _ _ _ _ _ _ _).below hb2)
      have x20 := HW2.out.pl.c0
      have x21 := HW2.out.pl.c1
      have x22 := HW2.out.pl.c2
      have x23 := HW2.out.a.c0
      have x24 := HW2.out.a.c1
      have x25 := HW2.out.b.c0
      have x26 := HW2.out.b.c1
      clear hb2
      have hlt := HW2.out.r.lt
      have f0 := HW2.out.r.frozen 0
      have f1 := HW2.out.r.frozen 1
      have r0 := HW2.out.r.c0
      have r1 := HW2.out.r.c1
      go_wp2_with fail
      refine bodyPost_ret (results_shr2 rfl _ _ (w.heap.size + 1 + 1 + 1) rfl (shcell_fill HW2.out.r 0 _)) rfl ?_
      rw [HE.out.1, HE.out.2.1, HE.out.2.2]
      exact NewShrE.no (below_set2 HW2.out.be (by omega) _ _)

set_option maxRecDepth 100000 in
set_option maxHeartbeats 4000000 in
theorem refAddS_ok (p : Nat) (n h x : Int) (B B' : Option Addr) (L M : List Nat) (cb cb' k : Nat) (w : World) (hp1 : 1 ≤ p) (hp2 : p ≤ 2147483648) (hv : primeV p = validI p) (hpl : plB p n h = true) (hsa : stB p h x (ofN L) = true) (hsb : stB p h x (ofN M) = true) (hkL : k = L.length) (hkM : k = M.length) (hLp : ∀ y ∈ L, y < p) (hMp : ∀ y ∈ M, y < p) (hI : IntsAt w B (ofN L)) (hJ : IntsAt w B' (ofN M)) (hl : k ≤ 1048576) :
    Calls Tryd.prog 36 #[planV p n h, shV x (.slice B k cb), shV x (.slice B' k cb')] w (NewShrE x (linN p L M 1) 0 w) := by
  have HI := Lib.hid hI
  have HJ := Lib.hid hJ
  have HLp := Lib.hid hLp
  have HMp := Lib.hid hMp
  have HV := Lib.hid (fun (W : World) => by have := refValid_plan p n h W hv; rw [hpl] at this; exact this)
  have HSA := Lib.hid (fun (W : World) (hI : IntsAt W B (ofN L)) => by have := refStands_any p n h x B (ofN L) cb W (plB_pv hpl hv) hI (by rw [len_ofN]; omega); rw [hsa, len_ofN, ← hkL] at this; exact this)
  have HSB := Lib.hid (fun (W : World) (hI : IntsAt W B' (ofN M)) => by have := refStands_any p n h x B' (ofN M) cb' W (plB_pv hpl hv) hI (by rw [len_ofN]; omega); rw [hsb, len_ofN, ← hkM] at this; exact this)
  have HKL := Lib.hid hkL
  have HKM := Lib.hid hkM
  have hLl : L.length ≤ 1048576 := by omega
  have hMl : M.length ≤ 1048576 := by omega
  have h1p : 1 < p := plB_two hpl
  clear hI hJ hLp hMp hkL hkM
  have HLIN := Lib.hid (fun (W : World) (h1 : NatsAt W B L) (h2 : NatsAt W B' M) => by have := refLinear_any p B B' L M cb cb' 1 W hp1 hp2 h1 h2 HLp.out HMp.out h1p (by omega) (by omega); rw [← HKL.out, ← HKM.out] at this; exact this)
  go_enter Tryd.func36, Tryd.ntmps36
  go_wp2_with fail
  refine ret_below (HV.out _) ?_
  intro w2 hb2
  have HW2 := Lib.hid ((AddW.start w _ _ _ _ _ _ _).below hb2)
  have x20 := HW2.out.pl.c0
  have x21 := HW2.out.pl.c1
  have x22 := HW2.out.pl.c2
  have x23 := HW2.out.a.c0
  have x24 := HW2.out.a.c1
  have x25 := HW2.out.b.c0
  have x26 := HW2.out.b.c1
  clear hb2
  go_wp2_with fail
  refine ret_below (HSA.out _ (HI.out.below HW2.out.be)) ?_
  intro w3 hb3
  have HW3 := Lib.hid (HW2.out.below hb3)
  have x30 := HW3.out.pl.c0
  have x31 := HW3.out.pl.c1
  have x32 := HW3.out.pl.c2
  have x33 := HW3.out.a.c0
  have x34 := HW3.out.a.c1
  have x35 := HW3.out.b.c0
  have x36 := HW3.out.b.c1
  clear x20 x21 x22 x23 x24 x25 x26
  clear hb3
  go_wp2_with fail
  refine ret_below (HSB.out _ (HJ.out.below HW3.out.be)) ?_
  intro w4 hb4
  have HW4 := Lib.hid (HW3.out.below hb4)
  have x40 := HW4.out.pl.c0
  have x41 := HW4.out.pl.c1
  have x42 := HW4.out.pl.c2
  have x43 := HW4.out.a.c0
  have x44 := HW4.out.a.c1
  have x45 := HW4.out.b.c0
  have x46 := HW4.out.b.c1
  clear x30 x31 x32 x33 x34 x35 x36
  clear hb4
  have hlt := HW4.out.r.lt
  have f0 := HW4.out.r.frozen 0
  have f1 := HW4.out.r.frozen 1
  have r0 := HW4.out.r.c0
  have r1 := HW4.out.r.c1
  go_wp2_with fail
  go_region_held3 (fun w' => w'.cell? ⟨w.heap.size, 0, none⟩ = some (.int .i64 (p : Int)) ∧ w'.cell? ⟨w.heap.size + 1, 0, none⟩ = some (.int .i64 x) ∧ w'.cell? ⟨w.heap.size + 1, 1, none⟩ = some (.slice B k cb) ∧ w'.cell? ⟨w.heap.size + 1 + 1, 1, none⟩ = some (.slice B' k cb')) (first | (go_keep; done) | (refine ⟨?_, ?_, ?_, ?_⟩ <;> (first | (go_keep; done) | (refine keep_set2 (by dsimp only; omega) ?_; assumption) | (refine keep_set2 (by dsimp only; omega) ?_; go_keep))))
    ((go_at_call 39; refine (HLIN.out _ ((HI.out.below HW4.out.be).nats.below (below_drewT _)) ((HJ.out.below HW4.out.be).nats.below (below_drewT _))).mono ?_; intro e w5 he; obtain ⟨A6, c6, rfl, hN6, hS6, hO6, hb6⟩ := he.open_; have hb5 : Below w4.heap.size w4 w5 := (below_undrew1 hb6); have HW5 := Lib.hid (HW4.out.below hb5); have x50 := HW5.out.pl.c0; have x51 := HW5.out.pl.c1; have x52 := HW5.out.pl.c2; have x53 := HW5.out.a.c0; have x54 := HW5.out.a.c1; have x55 := HW5.out.b.c0; have x56 := HW5.out.b.c1; have g0 := HW5.out.r.frozen 0; have g1 := HW5.out.r.frozen 1; have v0 := HW5.out.r.c0; have v1 := HW5.out.r.c1; have hO6' : ∀ b off, A6 = some ⟨b, off, none⟩ → w4.heap.size ≤ b ∧ b < w5.heap.size := (fun b off e => by have := hO6 b off e; rw [World.size_drew] at this; exact this)))
  go_wp2_with fail
  refine bodyPost_ret (results_shr2 rfl _ _ (w.heap.size + 1 + 1 + 1) rfl (shcell_fill HW5.out.r x _)) rfl ⟨A6, c6, rfl, nats_set2 hN6 (fun b off e => by have := hO6' b off e; omega), hS6, fun b off e => ?_, ?_⟩
  · have := hO6' b off e
    rw [size_set2]
    exact ⟨Nat.le_trans HW4.out.be.size this.1, this.2⟩
  · exact below_set2 HW5.out.be (by omega) _ _

set_option maxRecDepth 100000 in
set_option maxHeartbeats 4000000 in
theorem refAddS_any (p n h x y : Int) (B B' : Option Addr) (L M : List Int) (cb cb' : Nat) (w : World) (hv : primeV p = validI p) (hI : IntsAt w B L) (hJ : IntsAt w B' M) (hl : L.length ≤ 1048576) (hm : M.length ≤ 1048576) :
    Calls Tryd.prog 36 #[planV p n h, shV x (.slice B L.length cb), shV y (.slice B' M.length cb')] w (NewShrE (adX p n h x y L M) (adL p n h x y L M) (adE p n h x y L M) w) := by
  by_cases hok : AdP p n h x y L M
  · have hok' := hok
    obtain ⟨hpl, hsa, hsb, rfl, hlen⟩ := hok
    obtain ⟨q, rfl, hq1, hq2⟩ := plB_nat hpl hv
    have h1 := inside_nat (stB_bd hsa).2.2
    have h2 := inside_nat (stB_bd hsb).2.2
    have := refAddS_ok q n h x B B' (L.map Int.toNat) (M.map Int.toNat) cb cb' L.length w hq1 hq2 hv hpl (by rw [h1.1]; exact hsa) (by rw [h2.1]; exact hsb) (by simp) (by simpa using hlen) h1.2 h2.2 (by rw [h1.1]; exact hI) (by rw [h2.1]; exact hJ) hl
    rw [adX_ok hok', adL_ok hok', adE_ok hok', ← hlen]
    exact this
  · have HE := Lib.hid (ad_no hok)
    have HI := Lib.hid hI
    have HJ := Lib.hid hJ
    by_cases hpl : plB p n h = true
    · by_cases hsa : stB p h x L = true
      · by_cases hsb : stB p h y M = true
        · by_cases hxy : x = y
          · subst hxy
            have hlen : ¬ L.length = M.length := fun e => hok ⟨hpl, hsa, hsb, rfl, e⟩
            have HV := Lib.hid (fun (W : World) => by have := refValid_plan p n h W hv; rw [hpl] at this; exact this)
            have HSA := Lib.hid (fun (W : World) (hI : IntsAt W B L) => by have := refStands_any p n h x B L cb W (plB_pv hpl hv) hI (by omega); rw [hsa] at this; exact this)
            have HSB := Lib.hid (fun (W : World) (hI : IntsAt W B' M) => by have := refStands_any p n h x B' M cb' W (plB_pv hpl hv) hI (by omega); rw [hsb] at this; exact this)
            clear hI hJ
            go_enter Tryd.func36, Tryd.ntmps36
            go_wp2_with fail
            refine ret_below (HV.out _) ?_
            intro w2 hb2
            have HW2 := Lib.hid ((AddW.start w _ _ _ _ _ _ _).below hb2)
            have x20 := HW2.out.pl.c0
            have x21 := HW2.out.pl.c1
            have x22 := HW2.out.pl.c2
            have x23 := HW2.out.a.c0
            have x24 := HW2.out.a.c1
            have x25 := HW2.out.b.c0
            have x26 := HW2.out.b.c1
            clear hb2
            go_wp2_with fail
            refine ret_below (HSA.out _ (HI.out.below HW2.out.be)) ?_
            intro w3 hb3
            have HW3 := Lib.hid (HW2.out.below hb3)
            have x30 := HW3.out.pl.c0
            have x31 := HW3.out.pl.c1
            have x32 := HW3.out.pl.c2
            have x33 := HW3.out.a.c0
            have x34 := HW3.out.a.c1
            have x35 := HW3.out.b.c0
            have x36 := HW3.out.b.c1
            clear x20 x21 x22 x23 x24 x25 x26
            clear hb3
            go_wp2_with fail
            refine ret_below (HSB.out _ (HJ.out.below HW3.out.be)) ?_
            intro w4 hb4
            have HW4 := Lib.hid (HW3.out.below hb4)
            have x40 := HW4.out.pl.c0
            have x41 := HW4.out.pl.c1
            have x42 := HW4.out.pl.c2
            have x43 := HW4.out.a.c0
            have x44 := HW4.out.a.c1
            have x45 := HW4.out.b.c0
            have x46 := HW4.out.b.c1
            clear x30 x31 x32 x33 x34 x35 x36
            clear hb4
            have hlt := HW4.out.r.lt
            have f0 := HW4.out.r.frozen 0
            have f1 := HW4.out.r.frozen 1
            have r0 := HW4.out.r.c0
            have r1 := HW4.out.r.c1
            go_wp2_with fail
            refine bodyPost_ret (results_shr2 rfl _ _ (w.heap.size + 1 + 1 + 1) rfl (shcell_fill HW4.out.r 0 _)) rfl ?_
            rw [HE.out.1, HE.out.2.1, HE.out.2.2]
            exact NewShrE.no (below_set2 HW4.out.be (by omega) _ _)
          · clear hok
            have HV := Lib.hid (fun (W : World) => by have := refValid_plan p n h W hv; rw [hpl] at this; exact this)
            have HSA := Lib.hid (fun (W : World) (hI : IntsAt W B L) => by have := refStands_any p n h x B L cb W (plB_pv hpl hv) hI (by omega); rw [hsa] at this; exact this)
            have HSB := Lib.hid (fun (W : World) (hI : IntsAt W B' M) => by have := refStands_any p n h y B' M cb' W (plB_pv hpl hv) hI (by omega); rw [hsb] at this; exact this)
            clear hI hJ
            go_enter Tryd.func36, Tryd.ntmps36
            go_wp2_with fail
            refine ret_below (HV.out _) ?_
            intro w2 hb2
            have HW2 := Lib.hid ((AddW.start w _ _ _ _ _ _ _).below hb2)
            have x20 := HW2.out.pl.c0
            have x21 := HW2.out.pl.c1
            have x22 := HW2.out.pl.c2
            have x23 := HW2.out.a.c0
            have x24 := HW2.out.a.c1
            have x25 := HW2.out.b.c0
            have x26 := HW2.out.b.c1
            clear hb2
            go_wp2_with fail
            refine ret_below (HSA.out _ (HI.out.below HW2.out.be)) ?_
            intro w3 hb3
            have HW3 := Lib.hid (HW2.out.below hb3)
            have x30 := HW3.out.pl.c0
            have x31 := HW3.out.pl.c1
            have x32 := HW3.out.pl.c2
            have x33 := HW3.out.a.c0
            have x34 := HW3.out.a.c1
            have x35 := HW3.out.b.c0
            have x36 := HW3.out.b.c1
            clear x20 x21 x22 x23 x24 x25 x26
            clear hb3
            go_wp2_with fail
            refine ret_below (HSB.out _ (HJ.out.below HW3.out.be)) ?_
            intro w4 hb4
            have HW4 := Lib.hid (HW3.out.below hb4)
            have x40 := HW4.out.pl.c0
            have x41 := HW4.out.pl.c1
            have x42 := HW4.out.pl.c2
            have x43 := HW4.out.a.c0
            have x44 := HW4.out.a.c1
            have x45 := HW4.out.b.c0
            have x46 := HW4.out.b.c1
            clear x30 x31 x32 x33 x34 x35 x36
            clear hb4
            have hlt := HW4.out.r.lt
            have f0 := HW4.out.r.frozen 0
            have f1 := HW4.out.r.frozen 1
            have r0 := HW4.out.r.c0
            have r1 := HW4.out.r.c1
            go_wp2_with fail
            refine bodyPost_ret (results_shr2 rfl _ _ (w.heap.size + 1 + 1 + 1) rfl (shcell_fill HW4.out.r 0 _)) rfl ?_
            rw [HE.out.1, HE.out.2.1, HE.out.2.2]
            exact NewShrE.no (below_set2 HW4.out.be (by omega) _ _)
        · clear hok
          have hsb' : stB p h y M = false := by simpa using hsb
          have HV := Lib.hid (fun (W : World) => by have := refValid_plan p n h W hv; rw [hpl] at this; exact this)
          have HSA := Lib.hid (fun (W : World) (hI : IntsAt W B L) => by have := refStands_any p n h x B L cb W (plB_pv hpl hv) hI (by omega); rw [hsa] at this; exact this)
          have HSB := Lib.hid (fun (W : World) (hI : IntsAt W B' M) => by have := refStands_any p n h y B' M cb' W (plB_pv hpl hv) hI (by omega); rw [hsb'] at this; exact this)
          clear hI hJ
          go_enter Tryd.func36, Tryd.ntmps36
          go_wp2_with fail
          refine ret_below (HV.out _) ?_
          intro w2 hb2
          have HW2 := Lib.hid ((AddW.start w _ _ _ _ _ _ _).below hb2)
          have x20 := HW2.out.pl.c0
          have x21 := HW2.out.pl.c1
          have x22 := HW2.out.pl.c2
          have x23 := HW2.out.a.c0
          have x24 := HW2.out.a.c1
          have x25 := HW2.out.b.c0
          have x26 := HW2.out.b.c1
          clear hb2
          go_wp2_with fail
          refine ret_below (HSA.out _ (HI.out.below HW2.out.be)) ?_
          intro w3 hb3
          have HW3 := Lib.hid (HW2.out.below hb3)
          have x30 := HW3.out.pl.c0
          have x31 := HW3.out.pl.c1
          have x32 := HW3.out.pl.c2
          have x33 := HW3.out.a.c0
          have x34 := HW3.out.a.c1
          have x35 := HW3.out.b.c0
          have x36 := HW3.out.b.c1
          clear x20 x21 x22 x23 x24 x25 x26
          clear hb3
          go_wp2_with fail
          refine ret_below (HSB.out _ (HJ.out.below HW3.out.be)) ?_
          intro w4 hb4
          have HW4 := Lib.hid (HW3.out.below hb4)
          have x40 := HW4.out.pl.c0
          have x41 := HW4.out.pl.c1
          have x42 := HW4.out.pl.c2
          have x43 := HW4.out.a.c0
          have x44 := HW4.out.a.c1
          have x45 := HW4.out.b.c0
          have x46 := HW4.out.b.c1
          clear x30 x31 x32 x33 x34 x35 x36
          clear hb4
          have hlt := HW4.out.r.lt
          have f0 := HW4.out.r.frozen 0
          have f1 := HW4.out.r.frozen 1
          have r0 := HW4.out.r.c0
          have r1 := HW4.out.r.c1
          go_wp2_with fail
          refine bodyPost_ret (results_shr2 rfl _ _ (w.heap.size + 1 + 1 + 1) rfl (shcell_fill HW4.out.r 0 _)) rfl ?_
          rw [HE.out.1, HE.out.2.1, HE.out.2.2]
          exact NewShrE.no (below_set2 HW4.out.be (by omega) _ _)
      · clear hok
        have hsa' : stB p h x L = false := by simpa using hsa
        have HV := Lib.hid (fun (W : World) => by have := refValid_plan p n h W hv; rw [hpl] at this; exact this)
        have HSA := Lib.hid (fun (W : World) (hI : IntsAt W B L) => by have := refStands_any p n h x B L cb W (plB_pv hpl hv) hI (by omega); rw [hsa'] at this; exact this)
        clear hI hJ
        go_enter Tryd.func36, Tryd.ntmps36
        go_wp2_with fail
        refine ret_below (HV.out _) ?_
        intro w2 hb2
        have HW2 := Lib.hid ((AddW.start w _ _ _ _ _ _ _).below hb2)
        have x20 := HW2.out.pl.c0
        have x21 := HW2.out.pl.c1
        have x22 := HW2.out.pl.c2
        have x23 := HW2.out.a.c0
        have x24 := HW2.out.a.c1
        have x25 := HW2.out.b.c0
        have x26 := HW2.out.b.c1
        clear hb2
        go_wp2_with fail
        refine ret_below (HSA.out _ (HI.out.below HW2.out.be)) ?_
        intro w3 hb3
        have HW3 := Lib.hid (HW2.out.below hb3)
        have x30 := HW3.out.pl.c0
        have x31 := HW3.out.pl.c1
        have x32 := HW3.out.pl.c2
        have x33 := HW3.out.a.c0
        have x34 := HW3.out.a.c1
        have x35 := HW3.out.b.c0
        have x36 := HW3.out.b.c1
        clear x20 x21 x22 x23 x24 x25 x26
        clear hb3
        have hlt := HW3.out.r.lt
        have f0 := HW3.out.r.frozen 0
        have f1 := HW3.out.r.frozen 1
        have r0 := HW3.out.r.c0
        have r1 := HW3.out.r.c1
        go_wp2_with fail
        refine bodyPost_ret (results_shr2 rfl _ _ (w.heap.size + 1 + 1 + 1) rfl (shcell_fill HW3.out.r 0 _)) rfl ?_
        rw [HE.out.1, HE.out.2.1, HE.out.2.2]
        exact NewShrE.no (below_set2 HW3.out.be (by omega) _ _)
    · clear hok
      have hpl' : plB p n h = false := by simpa using hpl
      have HV := Lib.hid (fun (W : World) => by have := refValid_plan p n h W hv; rw [hpl'] at this; exact this)
      clear hI hJ
      go_enter Tryd.func36, Tryd.ntmps36
      go_wp2_with fail
      refine ret_below (HV.out _) ?_
      intro w2 hb2
      have HW2 := Lib.hid ((AddW.start w _ _ _ _ _ _ _).below hb2)
      have x20 := HW2.out.pl.c0
      have x21 := HW2.out.pl.c1
      have x22 := HW2.out.pl.c2
      have x23 := HW2.out.a.c0
      have x24 := HW2.out.a.c1
      have x25 := HW2.out.b.c0
      have x26 := HW2.out.b.c1
      clear hb2
      have hlt := HW2.out.r.lt
      have f0 := HW2.out.r.frozen 0
      have f1 := HW2.out.r.frozen 1
      have r0 := HW2.out.r.c0
      have r1 := HW2.out.r.c1
      go_wp2_with fail
      refine bodyPost_ret (results_shr2 rfl _ _ (w.heap.size + 1 + 1 + 1) rfl (shcell_fill HW2.out.r 0 _)) rfl ?_
      rw [HE.out.1, HE.out.2.1, HE.out.2.2]
      exact NewShrE.no (below_set2 HW2.out.be (by omega) _ _)

end Go.Proofs.YtkjpnhhkebbmdaaDoor
namespace Go.Proofs.YtkjpnhhkebbmdaaDoor
open Go.RowKit

/-! ### Sums -/
theorem cg_evs {p x : Nat} (L : List Nat) (n : Nat) (h : L.length ≤ n) : Cg p (evN p L x : Nat) (sumI n fun k => (nthN L k : Int) * x ^ k) := (cg_ev p x L).trans (.of_eq (evalZ_sum x L n h))
theorem ev_lin {p : Nat} (hp : 1 ≤ p) (F G : List Nat) (c x : Nat) : evN p (linN p F G c) x = fadd p (evN p F x) (fmul p c (evN p G x)) := by
  refine Cg.nat ((cg_evs (linN p F G c) (max F.length G.length) (by rw [linN_len]; exact Nat.le_refl _)).trans ?_) (evN_lt hp _ _) (fadd_lt hp _ _)
  refine (sumI_cg (g := fun k => (nthN F k : Int) * x ^ k + c * ((nthN G k : Int) * x ^ k)) _ fun k hk => ?_).trans ?_
  · rw [linN_nth hk]
    refine (((cg_add p _ _).trans ((Cg.refl p _).add (cg_mul p _ _))).mul (Cg.refl p _)).trans (.of_eq (by grind))
  · rw [sumI_add, sumI_mul]
    exact ((cg_add p _ _).trans ((cg_evs F _ (Nat.le_max_left _ _)).add ((cg_mul p _ _).trans ((Cg.refl p _).mul (cg_evs G _ (Nat.le_max_right _ _)))))).symm
theorem lin_one {p y : Nat} (h : y < p) : fmul p 1 (fadd p 0 y) = y := by unfold fmul fadd; rw [Nat.one_mul, Nat.zero_add, Nat.mod_mod, Nat.mod_eq_of_lt h]
theorem lin0_len {p c : Nat} {M : List Nat} : (linN p [] M c).length = M.length := by rw [linN_len]; simp
def sumV (p : Nat) (L M : List Nat) (c : Nat) : List Nat := linN p L (linN p [] M c) 1
theorem sumV_len {p c : Nat} {L M : List Nat} (h : L.length = M.length) : (sumV p L M c).length = L.length := by simp [sumV, linN_len, h]
theorem sumV_nth {p c i : Nat} {L M : List Nat} (hp : 1 ≤ p) (h : L.length = M.length) (hi : i < L.length) : nthN (sumV p L M c) i = fadd p (nthN L i) (fmul p c (nthN M i)) := by
  unfold sumV
  rw [linN_nth (by rw [linN_len]; omega), linN_nth (by simp; omega), nthN_nil, lin_one (fmul_lt hp _ _)]
/-- The shares N and c times M. -/
def addT (p c : Nat) (N M : List ShN) : List ShN := (List.range N.length).map fun k => (hN N k, sumV p (vN N k) (vN M k) c)
theorem addT_len (p c : Nat) (N M : List ShN) : (addT p c N M).length = N.length := by simp [addT]
theorem addT_at {p c k : Nat} {N M : List ShN} (h : k < N.length) : hN (addT p c N M) k = hN N k ∧ vN (addT p c N M) k = sumV p (vN N k) (vN M k) c := by
  simp [addT, hN, vN, List.getD_eq_getElem?_getD, h]
theorem addT_take {p c k : Nat} {N M : List ShN} (h : k < N.length) : (addT p c N M).take (k + 1) = (addT p c N M).take k ++ [(hN N k, sumV p (vN N k) (vN M k) c)] := by
  rw [List.take_succ_eq_append_getElem (by rw [addT_len]; exact h), getD_at (by rw [addT_len]; exact h), (addT_at h).1, (addT_at h).2]
theorem add_on {p h m c : Nat} {F G : Nat → List Nat} {N M : List ShN} (hp : 1 ≤ p) (H : OnP p h m F N) (K : OnP p h m G M) (hl : M.length = N.length) (hh : ∀ k, k < N.length → hN M k = hN N k) :
    OnP p h m (fun i => linN p (F i) (G i) c) (addT p c N M) := by
  refine ⟨fun s hs => ?_, ?_⟩
  · obtain ⟨k, hk, rfl⟩ := shl_mem hs
    rw [addT_len] at hk
    rw [(addT_at hk).1, (addT_at hk).2]
    obtain ⟨h1, h2, h3⟩ := H.at_ hk
    obtain ⟨-, -, k3⟩ := K.at_ (show k < M.length by omega)
    refine ⟨h1, h2, ?_⟩
    simp only
    rw [hh k hk] at k3
    have l1 : (vN N k).length = m := by rw [h3]; simp
    have l2 : (vN M k).length = m := by rw [k3]; simp
    refine extN (by rw [sumV_len (by omega)]; simp [l1]) fun i hi => ?_
    rw [sumV_len (by omega)] at hi
    rw [sumV_nth hp (by omega) hi, h3, k3, nthN_eq (by simpa [l1] using hi), nthN_eq (by simpa [l1] using hi), nthN_eq (by simpa [l1] using hi)]
    simp [ev_lin hp]
  · refine nodup_hsN fun k hk j hj => ?_
    rw [addT_len] at hk
    rw [(addT_at hk).1, (addT_at (show j < N.length by omega)).1]
    exact (hsN_ne H.nd (show j < N.length by omega) hk (by omega))
theorem Made.add {p n h c : Nat} {a b : List Nat} {N M : List ShN} (hp : 1 ≤ p) (H : Made p n h a N) (K : Made p n h b M) (hab : a.length = b.length) (hl : M.length = N.length) (hh : ∀ k, k < N.length → hN M k = hN N k) :
    Made p n h (linN p a b c) (addT p c N M) := by
  obtain ⟨F, h1, h2, h3⟩ := H.ex
  obtain ⟨G, k1, k2, k3⟩ := K.ex
  have hle : (linN p a b c).length = a.length := by rw [linN_len]; omega
  rw [← hab] at k1 k2
  refine ⟨fun i => linN p (F i) (G i) c, by rw [hle]; exact add_on hp h1 k1 hl hh, fun i hi => ?_, ?_⟩
  · rw [hle] at hi
    have := h2 i hi; have := k2 i hi
    rw [linN_len]; omega
  · refine extN (by simp) fun i hi => ?_
    have hi' : i < a.length := by simpa [hle] using hi
    have e1 : nthN a i = evN p (F i) 0 := by
      conv => lhs; rw [← h3]
      rw [nthN_eq (by simpa using hi')]; simp
    have e2 : nthN b i = evN p (G i) 0 := by
      conv => lhs; rw [← k3]
      rw [nthN_eq (by simp; omega)]; simp
    rw [nthN_eq hi, linN_nth (by omega), e1, e2]
    simp [ev_lin hp]
theorem deal_hold {p n h k : Nat} {a b ra rb : List Nat} (hk : k < (dealN p n h a ra).length) : hN (dealN p n h b rb) k = hN (dealN p n h a ra) k := by
  rw [deal_len] at hk
  unfold dealN
  rw [(dealtT_at hk).1, (dealtT_at hk).1]

theorem random_nat (p n h q rl : Nat) (w : World) (hrl : rl = q * (n - 1)) (hn : 1 ≤ n) (hn2 : n ≤ 1000) (hq : q ≤ 1048576) :
    Calls Tryd.prog 23 #[planV p n h, .int .i64 (q : Int)] w (RetB (.int .i64 (rl : Int)) w) := by
  have := random_any p n h q w (by omega) (by omega) (by omega) (by omega)
  rw [show (q : Int) * ((n : Int) - 1) = ((rl : Nat) : Int) from by rw [hrl, show ((n : Int) - 1) = ((n - 1 : Nat) : Int) by omega]; push_cast; rfl] at this
  exact this
theorem gen_calls {P : Program} {f : FuncId} {args : Array Value} {w : World} {Q : Ending → World → Prop} (h : ∀ w', w' = w → Calls P f args w' Q) : Calls P f args w Q := h w rfl
theorem deal_row {p n h k : Nat} {sec ran : List Nat} (hp : 1 ≤ p) (hk : k < h) : hN (dealN p n h sec ran) k = k + 1 ∧ (vN (dealN p n h sec ran) k).length = sec.length ∧ ∀ y ∈ vN (dealN p n h sec ran) k, y < p := by
  unfold dealN
  rw [(dealtT_at hk).1, (dealtT_at hk).2]
  refine ⟨rfl, by simp, fun y hy => ?_⟩
  obtain ⟨i, -, rfl⟩ := List.mem_map.1 hy
  exact evN_lt hp _ _

/-! ### A share that a call returned, laid into a variable: the variable is made before or behind the call -/
theorem bl_refl (w : World) : Below w.heap.size w w := Below.refl _ w
theorem bl_drew {w0 w : World} (h : Below w0.heap.size w0 w) : Below w0.heap.size w0 w.drew := h.drew
theorem bl_alloc {w0 w : World} (o : Obj) (h : Below w0.heap.size w0 w) : Below w0.heap.size w0 (w.alloc o) := below_trans h (below_alloc _ _)
abbrev shO : Obj := .cells #[.int .i64 0, .slice none 0 0] 47
structure ShNew (w0 w : World) (g : Nat) (x : Int) (A : Option Addr) (c : Nat) (L : List Nat) : Prop where
  cell : ShCell w g x (.slice A L.length c)
  nats : NatsAt w A L
  ok : SlOK A c L
  off : ∀ b off, A = some ⟨b, off, none⟩ → w0.heap.size ≤ b ∧ b < w.heap.size
  low : w0.heap.size ≤ g
  below : Below w0.heap.size w0 w
theorem ShNew.drew {w0 w : World} {g : Nat} {x : Int} {A : Option Addr} {c : Nat} {L : List Nat} (h : ShNew w0 w g x A c L) : ShNew w0 w.drew g x A c L := ⟨h.cell, h.nats, h.ok, h.off, h.low, h.below.drew⟩
theorem ShNew.early {w0 W w : World} {g : Nat} {x : Int} {A : Option Addr} {c : Nat} {L : List Nat} (hR : ShCell W g 0 (.slice none 0 0)) (hg : w0.heap.size ≤ g) (hW : Below w0.heap.size w0 W) (hb : Below W.heap.size W w) (hN : NatsAt w A L) (hS : SlOK A c L) (hO : ∀ b off, A = some ⟨b, off, none⟩ → W.heap.size ≤ b ∧ b < w.heap.size) :
    ShNew w0 ((w.setCell ⟨g, 0, none⟩ (.int .i64 x)).setCell ⟨g, 1, none⟩ (.slice A L.length c)) g x A c L := by
  have hl := hR.lt
  refine ⟨shcell_fill (hR.below hb) x _, nats_set2 hN (fun b off e => by have := hO b off e; omega), hS, fun b off e => ?_, hg, below_set2 (below_trans hW hb) hg _ _⟩
  rw [size_set2]
  have := hO b off e
  have := hW.size
  omega
theorem ShNew.late {w0 w : World} {x : Int} {A : Option Addr} {c : Nat} {L : List Nat} (hb : Below w0.heap.size w0 w) (hN : NatsAt w A L) (hS : SlOK A c L) (hO : ∀ b off, A = some ⟨b, off, none⟩ → w0.heap.size ≤ b ∧ b < w.heap.size) :
    ShNew w0 (w.alloc (.cells #[.int .i64 x, .slice A L.length c] 47)) w.heap.size x A c L :=
  ⟨ShCell.new _ _ rfl, hN.below (below_alloc _ _), hS, fun b off e => by rw [size_alloc]; have := hO b off e; omega, hb.size, bl_alloc _ hb⟩
theorem gen_last {α : Type} {f : α → World → Prop} {a : α} {w : World} (h : ∀ w', w' = w → f a w') : f a w := h w rfl

/-! ### Lists of shares under way -/
structure RowsV (Q : Nat → Prop) (w : World) (base : Nat) (v : Value) (S : List Shr) : Prop where
  ex : ∃ H : List HV, HvOwn w base v H ∧ H.length = S.length ∧ ∀ k, k < S.length → (hvAt H k).1 = hS S k ∧ ∃ B c, (hvAt H k).2 = .slice B (vS S k).length c ∧ IntsP (fun b => Q b ∧ v.ownBlock ≠ some b) w B c (vS S k)
theorem RowsV.nil (Q : Nat → Prop) (w : World) (base : Nat) : RowsV Q w base (.slice none 0 0) [] := ⟨[], HvOwn.nil _ _, rfl, fun k hk => absurd hk (by simp)⟩
theorem RowsV.kept {Q : Nat → Prop} {w w' : World} {base : Nat} {v : Value} {S : List Shr} {row : Option Nat} (h : RowsV Q w base v S) (hg : w.grownBy w' row) (h1 : v.ownBlock = none ∨ v.ownBlock ≠ row) (h2 : ∀ b, Q b → row ≠ some b) : RowsV Q w' base v S := by
  obtain ⟨H, e1, e2, e3⟩ := h.ex
  refine ⟨H, e1.kept hg h1, e2, fun k hk => ?_⟩
  obtain ⟨f1, B, c, f2, f3⟩ := e3 k hk
  exact ⟨f1, B, c, f2, f3.keep ⟨hg.size, fun b hb hlt => hg.block b hlt (fun e => h2 b hb.1 e.symm)⟩⟩
theorem RowsV.below {Q : Nat → Prop} {w w' : World} {base : Nat} {v : Value} {S : List Shr} (h : RowsV Q w base v S) (hb : Below w.heap.size w w') : RowsV Q w' base v S := by
  obtain ⟨H, e1, e2, e3⟩ := h.ex
  refine ⟨H, e1.below hb, e2, fun k hk => ?_⟩
  obtain ⟨f1, B, c, f2, f3⟩ := e3 k hk
  exact ⟨f1, B, c, f2, f3.keep (Kept.below hb)⟩
theorem RowsV.more {Q : Nat → Prop} {w w' : World} {base : Nat} {v v' : Value} {H : List HV} {S : List Shr} (e2 : H.length = S.length)
    (e3 : ∀ k, k < S.length → (hvAt H k).1 = hS S k ∧ ∃ B c, (hvAt H k).2 = .slice B (vS S k).length c ∧ IntsP (fun b => Q b ∧ v.ownBlock ≠ some b) w B c (vS S k))
    (x : Int) (L : List Int) {B : Option Addr} {c : Nat} (hI : IntsP (fun b => Q b ∧ v.ownBlock ≠ some b) w B c L) (hown : HvOwn w' base v' (H ++ [(x, .slice B L.length c)])) (hg : w.grownBy w' v.ownBlock)
    (hv : v'.ownBlock = v.ownBlock ∨ v'.ownBlock = some w.heap.size) : RowsV Q w' base v' (S ++ [(x, L)]) := by
  have key : ∀ {B : Option Addr} {c : Nat} {L : List Int}, IntsP (fun b => Q b ∧ v.ownBlock ≠ some b) w B c L → IntsP (fun b => Q b ∧ v'.ownBlock ≠ some b) w' B c L := fun hI =>
    ((hI.mono (Q := fun b => (Q b ∧ v'.ownBlock ≠ some b) ∧ v.ownBlock ≠ some b) (fun b hlt hb => ⟨⟨hb.1, fun e => by
      rcases hv with h | h
      · exact hb.2 (h ▸ e)
      · rw [h] at e; injection e with e; omega⟩, hb.2⟩)).keep (w' := w') ⟨hg.size, fun b hb hlt => hg.block b hlt (fun e => hb.2 e.symm)⟩).mono (fun b _ hb => hb.1)
  refine ⟨_, hown, by simp [e2], fun k hk => ?_⟩
  rcases Nat.lt_or_ge k S.length with h | h
  · obtain ⟨f1, B', c', f2, f3⟩ := e3 k h
    rw [hvAt_append (by omega), (hS_append h).1, (hS_append h).2]
    exact ⟨f1, B', c', f2, key f3⟩
  · obtain rfl : k = S.length := by simp at hk; omega
    rw [hS_last.1, hS_last.2]
    rw [show S.length = H.length from e2.symm, hvAt_last]
    exact ⟨rfl, B, c, rfl, key hI⟩
theorem RowsV.read {Q : Nat → Prop} {w : World} {base : Nat} {v : Value} {S : List Shr} (h : RowsV Q w base v S) : ∃ A c, v = .slice A S.length c ∧ ShP (fun b => base ≤ b ∨ Q b) w A c S := by
  obtain ⟨H, e1, e2, e3⟩ := h.ex
  rcases Nat.eq_zero_or_pos S.length with h0 | h0
  · have : S = [] := List.eq_nil_of_length_eq_zero h0
    subst this
    have hH : H = [] := List.eq_nil_of_length_eq_zero e2
    subst hH
    rcases e1.2 with ⟨rfl, -⟩ | ⟨g, cap, cur, rfl, hg, hh, hnc, hcm, hcs, htk⟩
    · exact ⟨none, 0, rfl, ShP.nil _ _⟩
    · exact ⟨_, cap, rfl, fun k hk => absurd hk (by simp), ⟨Nat.zero_le _, hcm, (fun e => by cases e), .inl rfl⟩⟩
  · obtain ⟨g, c, rfl, hg, hbg, hlc, hcm, hcell, -⟩ := e1.form (by rw [e2]; exact h0)
    refine ⟨some ⟨g, 0, none⟩, c, by rw [e2], fun k hk => ?_, ⟨by rw [← e2]; exact hlc, hcm, (fun e => by cases e), .inr (fun a e => by injection e with e; subst e; rfl)⟩⟩
    obtain ⟨f1, B, c', f2, f3⟩ := e3 k hk
    obtain ⟨c1, c2⟩ := hcell k (by rw [e2]; exact hk)
    refine ⟨g, 0, B, c', rfl, hg, .inl hbg, ?_, ?_, f3.mono (fun b _ hb => .inr hb.1)⟩
    · rw [Nat.zero_add, c1, f1]
    · rw [Nat.zero_add, c2, f2]
theorem ShNew.ints {wr w9 W : World} {base g : Nat} {x : Int} {v : Value} {A : Option Addr} {c : Nat} {L : List Nat} {S : List Shr} (h : ShNew wr w9 g x A c L) (hR : RowsV (fun b => base ≤ b) wr base v S) (hb : base ≤ wr.heap.size) (hw : Below w9.heap.size w9 W) :
    IntsP (fun b => base ≤ b ∧ v.ownBlock ≠ some b) W A c (ofN L) := by
  obtain ⟨H, e1, -, -⟩ := hR.ex
  refine ⟨(h.nats.below hw).ints, by rw [len_ofN]; exact h.ok.iok, fun b off e => .inr ⟨by have := h.off b off e; omega, fun e2 => ?_⟩⟩
  have := (World.ownsRow.lt e1 b e2).2
  have := h.off b off e
  omega
/-- One share more, that lies in a variable. -/
theorem RowsV.put {wr w9 W w4 : World} {base g : Nat} {x : Nat} {v v4 : Value} {A : Option Addr} {c : Nat} {L : List Nat} {T T' : List ShN} {H : List HV} (hR : RowsV (fun b => base ≤ b) wr base v (shL T)) (hN : ShNew wr w9 g x A c L) (hb : base ≤ wr.heap.size) (hW : W = w9.alloc (.cells #[.int .i64 (x : Int), .slice A L.length c] 47))
    (hH : HvOwn W base v H ∧ H.length = (shL T).length ∧ ∀ k, k < (shL T).length → (hvAt H k).1 = hS (shL T) k ∧ ∃ B c, (hvAt H k).2 = .slice B (vS (shL T) k).length c ∧ IntsP (fun b => base ≤ b ∧ v.ownBlock ≠ some b) W B c (vS (shL T) k))
    (hown : HvOwn w4 base v4 (H ++ [((x : Int), .slice A L.length c)])) (hg : W.grownBy w4 v.ownBlock) (hv : v4.ownBlock = v.ownBlock ∨ v4.ownBlock = some W.heap.size) (hT : T' = T ++ [(x, L)]) : RowsV (fun b => base ≤ b) w4 base v4 (shL T') := by
  subst hW hT
  rw [show shL (T ++ [(x, L)]) = shL T ++ [((x : Int), ofN L)] from by simp [shL, shI]]
  exact RowsV.more hH.2.1 hH.2.2 x (ofN L) (hN.ints hR hb (below_alloc _ _)) (by rw [len_ofN]; exact hown) hg hv
end Go.Proofs.YtkjpnhhkebbmdaaDoor
