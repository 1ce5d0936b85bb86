/-
  Shares: plans of dice; lists in another order.
-/
import Derived.Test.YtkjpnhhkebbmdaaDoorShT
import Derived.StillTailTactics
namespace Go.Proofs.YtkjpnhhkebbmdaaDoor
open Go.RowKit

attribute [local go_sem high] sliced_low
/-! ### A plan that dice give -/
theorem results_plan {fn : Func} {t : Tmp} (h : fn.results = #[.cell t 24]) (tmps : Array Value) (w : World) (g : Nat) (hp : tmps.getD t undef = .pointer (some ⟨g, 0, none⟩)) {p n h' : Int} (hX : PlanCell w g p n h') :
    (results fn tmps).run Tryd.prog w = .ok (planV p n h') w :=
  results_cell_row h tmps w g 24 _ (0, 0) _ hp hX Tryd.underlying24 rfl (by kernel_rfl)
theorem PlanCell.frozen {w : World} {x : Nat} {p n h : Int} (H : PlanCell w x p n h) (j : Nat) : w.frozen? ⟨x, j, none⟩ = false := by unfold PlanCell at H; simp [World.frozen?, H]
theorem PlanCell.fill {w : World} {x : Nat} {p n h : Int} (H : PlanCell w x p n h) (p' n' h' : Int) : PlanCell (((w.setCell ⟨x, 0, none⟩ (.int .i64 p')).setCell ⟨x, 1, none⟩ (.int .i64 n')).setCell ⟨x, 2, none⟩ (.int .i64 h')) x p' n' h' := by
  unfold PlanCell at H ⊢; simp [World.setCell, Array.getElem?_modify, H]
theorem grown_set {w w' : World} {D : Nat} (h : w.grownBy w' (some D)) (q : Addr) (v : Value) (hq : w.heap.size ≤ q.block) : w.grownBy (w'.setCell q v) (some D) :=
  ⟨h.os, h.tape, h.output, by simpa [World.setCell] using h.size, fun k hk hne => (Below.heap_setCell w' q v k (by omega)).trans (h.block k hk hne)⟩
structure PlanD (p n h : Nat) : Prop where
  n1 : 1 ≤ n
  nh : n ≤ h
  h7 : h ≤ 7
  hp : h < p
def PlanR (D p : Nat) (w : World) (e : Ending) (w' : World) : Prop := ∃ (n h : Nat) (R' : List Int), e = .returned (planV p n h) ∧ PlanD p n h ∧ DiceAt w' D R' ∧ w.grownBy w' (some D)
set_option maxRecDepth 100000 in
set_option maxHeartbeats 2000000 in
theorem plan_any (D : Nat) (R : List Int) (p : Nat) (w : World) (hd : DiceAt w D R) (hp : 2 ≤ p) (hp2 : p ≤ 2147483648) :
    Calls Tryd.prog 14 #[.pointer (some ⟨D, 0, none⟩), .int .i64 (p : Int)] w (PlanR D p w) := by
  have hlt := hd.lt
  have hpi : (2 : Int) ≤ (p : Int) := by omega
  go_enter Tryd.func14, Tryd.ntmps14
  go_wp2_with fail
  all_goals
    refine (next_nat D R _ _ (hd.alloc _) (by omega) (by omega)).mono ?_
    rintro e w1 ⟨m1, rfl, hm1, hD1, hg1⟩
    have hm7 : m1 < 7 := by omega
    have hmp : m1 + 1 < p := by omega
    have hX1 : PlanCell w1 w.heap.size 0 0 0 := (hg1.block w.heap.size (by simp) (fun e => by injection e with e; omega)).trans (PlanCell.new 0 0 0 rfl)
    have hgw1 := grown_trans (grown_of_below (r := some D) (below_alloc w (.cells #[.int .i64 0, .int .i64 0, .int .i64 0] 24))) hg1
    have HX1 := Lib.hid hX1
    have lx1 := hX1.lt
    clear hX1 hg1 hd hm1
    go_wp2_with fail
    refine (next_nat D _ _ _ hD1 (by omega) (by omega)).mono ?_
    rintro e w2 ⟨m2, rfl, hm2, hD2, hg2⟩
    have hX2 : PlanCell w2 w.heap.size 0 0 0 := (hg2.block w.heap.size lx1 (fun e => by injection e with e; omega)).trans HX1.out
    have x0 := hX2.c0
    have x1 := hX2.c1
    have x2 := hX2.c2
    have f0 := hX2.frozen 0
    have f1 := hX2.frozen 1
    have f2 := hX2.frozen 2
    have HX2 := Lib.hid hX2
    have lx2 := hX2.lt
    have HG := Lib.hid (And.intro hD2 (grown_trans hgw1 hg2))
    have hm2' : m2 ≤ m1 := by omega
    clear hX2 hg2 hD1 hD2 hgw1 hm2
    go_wp2_with fail
    have hfin := HX2.out.fill p (1 + m2) (1 + m1)
    have hgf : w.grownBy (((w2.setCell ⟨w.heap.size, 0, none⟩ (.int .i64 (p : Int))).setCell ⟨w.heap.size, 1, none⟩ (.int .i64 (1 + (m2 : Int)))).setCell ⟨w.heap.size, 2, none⟩ (.int .i64 (1 + (m1 : Int)))) (some D) :=
      grown_set (grown_set (grown_set HG.out.2 _ _ (Nat.le_refl _)) _ _ (Nat.le_refl _)) _ _ (Nat.le_refl _)
    refine bodyPost_ret (results_plan rfl _ _ w.heap.size rfl hfin) rfl ⟨1 + m2, 1 + m1, R.tail.tail, by push_cast; rfl, ⟨by omega, by omega, by omega, by omega⟩, ?_, hgf⟩
    exact ((HG.out.1.setCell _ _ (by simp; omega)).setCell _ _ (by simp; omega)).setCell _ _ (by simp; omega)

/-! ### Another order -/
theorem HvOwn.setHV {w : World} {base g c : Nat} {H : List HV} (h : HvOwn w base (.slice (some ⟨g, 0, none⟩) H.length c) H) (i : Nat) (hi : i < H.length) (x : HV) :
    HvOwn ((w.setCell ⟨g, i * 2, none⟩ (.int .i64 x.1)).setCell ⟨g, i * 2 + 1, none⟩ x.2) base (.slice (some ⟨g, 0, none⟩) H.length c) (H.set i x) := by
  have h1 := h.set0 i hi x.1
  have h1' : HvOwn (w.setCell ⟨g, i * 2, none⟩ (.int .i64 x.1)) base (.slice (some ⟨g, 0, none⟩) (H.set i (x.1, (hvAt H i).2)).length c) (H.set i (x.1, (hvAt H i).2)) := by rw [List.length_set]; exact h1
  have h2 := h1'.set1 i (by simpa using hi) x.2
  rw [hvAt_set_same _ _ _ hi, List.set_set, List.length_set] at h2
  exact h2
def swapH (H : List HV) (i k : Nat) : List HV := (H.set i (hvAt H k)).set k (hvAt H i)
def swapS (S : List Shr) (i k : Nat) : List Shr := (S.set i (hS S k, vS S k)).set k (hS S i, vS S i)
theorem swapH_len (H : List HV) (i k : Nat) : (swapH H i k).length = H.length := by simp [swapH]
theorem swapS_len (S : List Shr) (i k : Nat) : (swapS S i k).length = S.length := by simp [swapS]
theorem shr_at {S : List Shr} {k : Nat} (h : k < S.length) : S[k] = (hS S k, vS S k) := by simp [hS, vS, List.getD_eq_getElem?_getD, h]
theorem swapS_perm {S : List Shr} {i k : Nat} (hi : i < S.length) (hk : k < S.length) : (swapS S i k).Perm S := by
  unfold swapS
  rw [← shr_at hk, ← shr_at hi]
  exact List.set_set_perm hi hk
def swi (i k j : Nat) : Nat := if j = k then i else if j = i then k else j
theorem swapH_at {H : List HV} {i k j : Nat} (hi : i < H.length) (hk : k < H.length) : hvAt (swapH H i k) j = hvAt H (swi i k j) := by
  unfold swapH swi
  by_cases h1 : j = k
  · subst h1; rw [if_pos rfl, hvAt_set_same _ _ _ (by simpa using hk)]
  · rw [if_neg h1, hvAt_set_other _ _ _ _ (Ne.symm h1)]
    by_cases h2 : j = i
    · subst h2; rw [if_pos rfl, hvAt_set_same _ _ _ hi]
    · rw [if_neg h2, hvAt_set_other _ _ _ _ (Ne.symm h2)]
theorem swapS_at {S : List Shr} {i k j : Nat} (hi : i < S.length) (hk : k < S.length) : hS (swapS S i k) j = hS S (swi i k j) ∧ vS (swapS S i k) j = vS S (swi i k j) := by
  unfold swapS swi
  by_cases h1 : j = k
  · subst h1; rw [if_pos rfl]; simp [hS, vS, List.getD_eq_getElem?_getD, hk]
  · rw [if_neg h1]
    by_cases h2 : j = i
    · subst h2
      rw [if_pos rfl]
      have e1 : ((S.set j (hS S k, vS S k)).set k (hS S j, vS S j))[j]? = some (hS S k, vS S k) := by rw [List.getElem?_set_ne (Ne.symm h1)]; simp [hi]
      constructor
      · show (((S.set j (hS S k, vS S k)).set k (hS S j, vS S j)).getD j (0, [])).1 = _
        rw [List.getD_eq_getElem?_getD, e1]; rfl
      · show (((S.set j (hS S k, vS S k)).set k (hS S j, vS S j)).getD j (0, [])).2 = _
        rw [List.getD_eq_getElem?_getD, e1]; rfl
    · rw [if_neg h2]; simp [hS, vS, List.getD_eq_getElem?_getD, List.getElem?_set_ne (Ne.symm h1), List.getElem?_set_ne (Ne.symm h2)]
theorem swi_lt {i k j n : Nat} (hi : i < n) (hk : k < n) (hj : j < n) : swi i k j < n := by unfold swi; split <;> (try split) <;> assumption
theorem swi_inj {i k a b : Nat} (h : swi i k a = swi i k b) : a = b := by unfold swi at h; split at h <;> split at h <;> (try split at h) <;> (try split at h) <;> omega
/-- Two shares have changed places. -/
theorem RowsI.swap {w : World} {base g c : Nat} {H : List HV} {S : List Shr} (h : RowsI w base (.slice (some ⟨g, 0, none⟩) H.length c) H S) {i k : Nat} (hi : i < S.length) (hk : k < S.length) :
    RowsI ((((w.setCell ⟨g, i * 2, none⟩ (.int .i64 (hvAt H k).1)).setCell ⟨g, i * 2 + 1, none⟩ (hvAt H k).2).setCell ⟨g, k * 2, none⟩ (.int .i64 (hvAt H i).1)).setCell ⟨g, k * 2 + 1, none⟩ (hvAt H i).2) base (.slice (some ⟨g, 0, none⟩) H.length c) (swapH H i k) (swapS S i k) := by
  have hl := h.len
  have h1 := h.out.setHV i (by omega) (hvAt H k)
  have h1' : HvOwn ((w.setCell ⟨g, i * 2, none⟩ (.int .i64 (hvAt H k).1)).setCell ⟨g, i * 2 + 1, none⟩ (hvAt H k).2) base (.slice (some ⟨g, 0, none⟩) (H.set i (hvAt H k)).length c) (H.set i (hvAt H k)) := by rw [List.length_set]; exact h1
  have h2 := h1'.setHV k (by rw [List.length_set]; omega) (hvAt H i)
  rw [List.length_set] at h2
  have hHi : i < H.length := by omega
  have hHk : k < H.length := by omega
  refine ⟨h2, by rw [swapH_len, swapS_len, hl], fun j hj => ?_, fun j hj => ?_, fun a b ha hb hab x e1 e2 => ?_, fun a ha x e1 e2 => ?_⟩
  · rw [swapS_len] at hj
    rw [swapH_at hHi hHk, (swapS_at hi hk).1]; exact h.hold _ (swi_lt hi hk hj)
  · rw [swapS_len] at hj
    have hne : ∀ b, (hvAt H (swi i k j)).2.ownBlock = some b → b ≠ g := fun b e e2 => h.no _ (swi_lt hi hk hj) b e (by rw [e2]; rfl)
    rw [swapH_at hHi hHk, (swapS_at hi hk).2]
    exact own_other (own_other (own_other (own_other (h.row _ (swi_lt hi hk hj)) _ _ hne) _ _ hne) _ _ hne) _ _ hne
  · rw [swapS_len] at ha hb
    rw [swapH_at hHi hHk] at e1 e2
    exact h.ne _ _ (swi_lt hi hk ha) (swi_lt hi hk hb) (fun e => hab (swi_inj e)) x e1 e2
  · rw [swapS_len] at ha
    rw [swapH_at hHi hHk] at e1
    exact h.no _ (swi_lt hi hk ha) x e1 e2
def TurnP (D : Nat) (S : List Shr) (least : Nat) (w : World) (e : Ending) (w' : World) : Prop :=
  ∃ (A : Option Addr) (c m : Nat) (Q : List Shr) (R' : List Int), e = .returned (.slice A m c) ∧ Q.Perm S ∧ m ≤ S.length ∧ (least ≤ m ∨ m = S.length) ∧ ShP (· ≠ D) w' A c (Q.take m) ∧ DiceAt w' D R' ∧ w.grownBy w' (some D)
theorem RowsI.drew {w : World} {base : Nat} {v : Value} {H : List HV} {S : List Shr} (h : RowsI w base v H S) : RowsI w.drew base v H S := ⟨h.out, h.len, h.hold, h.row, h.ne, h.no⟩
theorem grown_drew {w w' : World} {r : Option Nat} (h : w.grownBy w' r) : w.grownBy w'.drew r := ⟨h.os, h.tape, h.output, h.size, h.block⟩
theorem grown4 {w w' : World} {D g a b c d : Nat} {v1 v2 v3 v4 : Value} (h : w.grownBy w' (some D)) (hg : w.heap.size ≤ g) : w.grownBy ((((w'.setCell ⟨g, a, none⟩ v1).setCell ⟨g, b, none⟩ v2).setCell ⟨g, c, none⟩ v3).setCell ⟨g, d, none⟩ v4).drew (some D) :=
  grown_drew (grown_set (grown_set (grown_set (grown_set h ⟨g, a, none⟩ v1 hg) ⟨g, b, none⟩ v2 hg) ⟨g, c, none⟩ v3 hg) ⟨g, d, none⟩ v4 hg)
theorem dice4 {w : World} {D g a b c d : Nat} {R : List Int} {v1 v2 v3 v4 : Value} (h : DiceAt w D R) (hg : D < g) : DiceAt ((((w.setCell ⟨g, a, none⟩ v1).setCell ⟨g, b, none⟩ v2).setCell ⟨g, c, none⟩ v3).setCell ⟨g, d, none⟩ v4).drew D R :=
  DiceAt.drewN ((((h.setCell ⟨g, a, none⟩ v1 hg).setCell ⟨g, b, none⟩ v2 hg).setCell ⟨g, c, none⟩ v3 hg).setCell ⟨g, d, none⟩ v4 hg) 1
theorem RowsI.grown {w w' : World} {base D : Nat} {v : Value} {H : List HV} {S : List Shr} (h : RowsI w base v H S) (hg : w.grownBy w' (some D)) (hD : D < base) : RowsI w' base v H S := by
  have hk : ∀ {e : TypeId} {size : Nat} {u : Value} {n : Nat} {xs : List Value}, w.ownsRow base e size u n xs → w'.ownsRow base e size u n xs := fun {e size u n xs} ho => World.ownsRow.kept ho hg (by
    rcases he : u.ownBlock with _ | b
    · exact .inl rfl
    · exact .inr (fun e2 => by have := (World.ownsRow.lt ho b he).1; injection e2 with e2; omega))
  exact ⟨hk h.out, h.len, h.hold, fun k hlt => hk (h.row k hlt), h.ne, h.no⟩
theorem swap_id {w : World} {base : Nat} {v : Value} {H : List HV} {S : List Shr} (h : RowsI w base v H S) {i k : Nat} (hi : i < S.length) : ∃ g c B1 c1 B2 c2, k < S.length → v = .slice (some ⟨g, 0, none⟩) H.length c ∧ g < w.heap.size ∧ base ≤ g ∧ (hvAt H i).2 = .slice B1 (vS S i).length c1 ∧ (hvAt H k).2 = .slice B2 (vS S k).length c2 ∧
      w.cell? ⟨g, i * 2, none⟩ = some (.int .i64 (hS S i)) ∧ w.cell? ⟨g, i * 2 + 1, none⟩ = some (.slice B1 (vS S i).length c1) ∧ w.cell? ⟨g, k * 2, none⟩ = some (.int .i64 (hS S k)) ∧ w.cell? ⟨g, k * 2 + 1, none⟩ = some (.slice B2 (vS S k).length c2) ∧ ∀ j, w.frozen? ⟨g, j, none⟩ = false := by
  obtain ⟨g, c, hv, hg, hbg, -, -, hcell, hfr⟩ := h.out.form (by rw [h.len]; omega)
  obtain ⟨B1, c1, hv1, -⟩ := own_ints (h.row i hi) rfl
  obtain ⟨a1, a2⟩ := hcell i (by rw [h.len]; exact hi)
  by_cases hk : k < S.length
  · obtain ⟨B2, c2, hv2, -⟩ := own_ints (h.row k hk) rfl
    obtain ⟨a3, a4⟩ := hcell k (by rw [h.len]; exact hk)
    exact ⟨g, c, B1, c1, B2, c2, fun _ => ⟨hv, hg, hbg, hv1, hv2, by rw [a1, h.hold i hi], by rw [a2, hv1], by rw [a3, h.hold k hk], by rw [a4, hv2], hfr⟩⟩
  · exact ⟨g, c, B1, c1, none, 0, fun e => absurd e hk⟩
set_option maxRecDepth 100000 in
set_option maxHeartbeats 4000000 in
theorem turn_any {P : Nat → Prop} (D : Nat) (R : List Int) (A : Option Addr) (c : Nat) (S : List Shr) (least : Nat) (w : World) (hd : DiceAt w D R) (hS : ShP P w A c S) (hsh : Short S) (hl : S.length ≤ 100000) (hle : least ≤ 100000) :
    Calls Tryd.prog 26 #[.pointer (some ⟨D, 0, none⟩), .slice A S.length c, .int .i64 (least : Int)] w (TurnP D S least w) := by
  have hDlt := hd.lt
  have HCP := Lib.hid (copy_any A c S w hS hsh (by omega))
  clear hS hsh
  go_enter Tryd.func26, Tryd.ntmps26
  go_wp2_with fail
  refine HCP.out.mono ?_
  rintro e w1 ⟨v, H, rfl, hR, hb1⟩
  obtain ⟨OA, oc, rfl, -⟩ := hR.read
  have HR := Lib.hid hR
  have HB1 := Lib.hid hb1
  have hD1 := hd.below hb1
  have hg1 := grown_of_below (r := some D) hb1
  clear hR hb1 HCP
  go_wp2_with fail
  go_loopw [14] (fun i wr => ∃ (k : Nat) (Q : List Shr) (H : List HV) (R : List Int), k ≤ S.length ∧ i = .int .i64 k ∧ Q.length = S.length ∧ Q.Perm S ∧ RowsI wr w.heap.size (.slice OA S.length oc) H Q ∧ DiceAt wr D R ∧ w.grownBy wr (some D)) (fun i _ => S.length - (intOf i).toNat)
  case atStart => exact ⟨0, S, H, R, Nat.zero_le _, rfl, rfl, List.Perm.refl _, HR.out, hD1, hg1⟩
  case round =>
    obtain ⟨i, Q, H2, R2, hi, rfl, hQl, hperm, hR2, hDr, hgr⟩ := hrel
    have HQL := Lib.hid hQl
    have HPM := Lib.hid hperm
    have HR2 := Lib.hid hR2
    have hQ1 : Q.length ≤ S.length := by omega
    have hQ2 : S.length ≤ Q.length := by omega
    have hgs := hgr.size
    clear hQl hperm hR2 hD1 hg1 hd
    by_cases hlt : i < S.length
    · go_wp2_with fail
      refine (next_nat D R2 _ _ hDr (by omega) (by omega)).mono ?_
      rintro e w3 ⟨k, rfl, hk, hD3, hg3⟩
      have hki : k ≤ i := by omega
      have hR3 : RowsI w3 w.heap.size (.slice OA S.length oc) H2 Q := HR2.out.grown hg3 hDlt
      have hgw3 := grown_trans hgr hg3
      have HR3 := Lib.hid hR3
      have hz3 := hg3.size
      obtain ⟨g, c3, B1, c1, B2, c2, hall⟩ := swap_id (k := k) hR3 (show i < Q.length by omega)
      obtain ⟨hv, hg, hbg, hv1, hv2, a1, a2, a3, a4, hfr⟩ := hall (by omega)
      injection hv with hv3 hv4 hv5
      subst hv3; subst hv5
      have f1 := hfr (i * 2)
      have f2 := hfr (i * 2 + 1)
      have f3 := hfr (k * 2)
      have f4 := hfr (k * 2 + 1)
      have HV := Lib.hid (And.intro hv1 (And.intro hv2 hv4))
      have HH := Lib.hid (And.intro (HR3.out.hold i (by omega)) (HR3.out.hold k (by omega)))
      have HSW := Lib.hid (swapS_perm (S := Q) (i := i) (k := k) (by omega) (by omega))
      have HSL := Lib.hid (swapS_len Q i k)
      have hR3d : RowsI w3 w.heap.size (.slice (some ⟨g, 0, none⟩) H2.length oc) H2 Q := by rw [← hv4]; exact hR3
      have hsw := hR3d.swap (i := i) (k := k) (by omega) (by omega)
      rw [hv1, hv2, HR3.out.hold i (by omega), HR3.out.hold k (by omega), ← hv4] at hsw
      have HSWAP := Lib.hid hsw.drew
      have hsw1 := hR3d.swap (i := i) (k := i) (by omega) (by omega)
      rw [hv1, HR3.out.hold i (by omega), ← hv4] at hsw1
      have HSWAP1 := Lib.hid hsw1.drew
      clear hsw hsw1 hR3d
      have n1 : (0 : Int) ≤ (i : Int) := by omega
      have n2 : (i : Int) < (S.length : Int) := by omega
      have n3 : (0 : Int) ≤ (k : Int) := by omega
      have n4 : (k : Int) < (S.length : Int) := by omega
      generalize hS Q i = x1 at *
      generalize vS Q i = L1 at *
      generalize hS Q k = x2 at *
      generalize vS Q k = L2 at *
      clear hv1 hv2 hv4 hfr hall hDr hgr hR3 hg3
      go_wp2_with fail
      by_cases hik : i = k
      · subst hik
        go_region_law (fail)
        all_goals
          go_wp2_with fail
          go_roundw
          case rel => exact ⟨i + 1, swapS Q i i, swapH H2 i i, R2.tail, by omega, by go_num, HSL.out.trans HQL.out, HSW.out.trans HPM.out, HSWAP1.out, dice4 hD3 (by omega), grown4 hgw3 hbg⟩
          case measure => simp [intOf]; omega
      · have q1 : ¬ i * 2 = k * 2 := by omega
        have q2 : ¬ i * 2 + 1 = k * 2 := by omega
        have q3 : ¬ i * 2 = k * 2 + 1 := by omega
        have q4 : ¬ k * 2 = i * 2 := by omega
        have q5 : ¬ k * 2 + 1 = i * 2 := by omega
        have q6 : ¬ k * 2 = i * 2 + 1 := by omega
        go_region_law (fail)
        all_goals
          go_wp2_with fail
          go_roundw
          case rel => exact ⟨i + 1, swapS Q i k, swapH H2 i k, R2.tail, by omega, by go_num, HSL.out.trans HQL.out, HSW.out.trans HPM.out, HSWAP.out, dice4 hD3 (by omega), grown4 hgw3 hbg⟩
          case measure => simp [intOf]; omega
    · obtain rfl : i = S.length := by omega
      obtain ⟨_, _, hv, hX⟩ := HR2.out.read
      injection hv with hv1 hv2 hv3
      subst hv1; subst hv3
      have HX := Lib.hid (show ShP (· ≠ D) wr OA oc Q from hX.mono fun b _ hb => by omega)
      have hcap := hX.ok.len
      clear hX hv2
      by_cases hq : S.length ≤ least
      · have t1 : decide ((S.length : Int) ≤ (least : Int)) = true := decide_eq_true (by omega)
        have t2 : decide (S.length ≤ least) = true := decide_eq_true hq
        go_wp2_with fail
        go_ret
        exact ⟨OA, oc, S.length, Q, R2, rfl, HPM.out, Nat.le_refl _, .inr rfl, by rw [List.take_of_length_le hQ1]; exact HX.out, hDr, hgr⟩
      · have t1 : decide ((S.length : Int) ≤ (least : Int)) = false := decide_eq_false (by omega)
        have t2 : decide (S.length ≤ least) = false := decide_eq_false hq
        go_wp2_with fail
        refine (next_nat D R2 _ _ hDr (by omega) (by omega)).mono ?_
        rintro e w3 ⟨m, rfl, hm, hD3, hg3⟩
        have n1 : (0 : Int) ≤ (least : Int) + (m : Int) := by omega
        have n2 : (least : Int) + (m : Int) ≤ (oc : Int) := by omega
        have n3 : ((least : Int) + (m : Int)).toNat = least + m := by omega
        have HX3 := Lib.hid (HX.out.keep (Kept.mv hg3))
        have HG3 := Lib.hid (And.intro hD3 (grown_trans hgr hg3))
        have hml : least + m ≤ S.length := by omega
        clear hD3 hg3 hDr hgr hm
        go_wp2_with fail
        go_ret
        exact ⟨OA, oc, least + m, Q, R2.tail, rfl, HPM.out, hml, .inl (by omega), HX3.out.take _, HG3.out⟩
end Go.Proofs.YtkjpnhhkebbmdaaDoor
