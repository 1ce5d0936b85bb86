/-
  Shares: the verifier's Odd: something of shares is changed.
  ShareDeals: what stands in memory; what is dealt is short.
  ShareCombines: the verifier's Small; lists of shares, and plans, in a literal.
  Refresh: pieces of RefreshActs' walk.
  Reshare: what the walk of ReshareActs needs.
  Conditions: those that each theorem names.
-/
import Derived.Test.YtlhipgejiacklaaDoorM13
import Derived.BigQuiet
import Derived.Deep.DeepCutAuto
import Derived.Deep.CutBlock
import Derived.Deep.CutRange
set_option linter.unusedVariables false
set_option linter.unusedSimpArgs false
namespace Go.Proofs.YtlhipgejiacklaaDoor
open Go.RowKit

attribute [local go_sem high] sliced_low
def Wide (M : Nat) (S : List Shr) : Prop := ∀ k, k < S.length → (vS S k).length ≤ M
theorem Wide.set {M : Nat} {S : List Shr} {k : Nat} {x : Int} {L : List Int} (h : Wide M S) (hL : L.length ≤ M + 1) : Wide (M + 1) (S.set k (x, L)) := fun j hj => by
  simp only [List.length_set] at hj
  by_cases hjk : k = j
  · subst hjk; rw [(sset_at hj).2]; exact hL
  · rw [(sset_other hjk).2]; have := h j hj; omega
theorem Wide.up {M : Nat} {S : List Shr} (h : Wide M S) : Wide (M + 1) S := fun k hk => by have := h k hk; omega
theorem Wide.app {M : Nat} {S : List Shr} {x : Int} {L : List Int} (h : Wide M S) (hL : L.length ≤ M) : Wide (M + 1) (S ++ [(x, L)]) := fun j hj => by
  by_cases hjs : j < S.length
  · rw [(hS_append hjs).2]; have := h j hjs; omega
  · have : j = S.length := by simp at hj; omega
    subst this
    rw [hS_last.2]; show L.length ≤ M + 1; omega
def OddP (D M : Nat) (S : List Shr) (w : World) (e : Ending) (w' : World) : Prop :=
  ∃ (A : Option Addr) (c : Nat) (S' : List Shr) (R' : List Int), e = .returned (.slice A S'.length c) ∧ ShP (· ≠ D) w' A c S' ∧ S'.length ≤ S.length + 1 ∧ Wide (M + 1) S' ∧ DiceAt w' D R' ∧ w.grownBy w' (some D) ∧ RowsV (fun b => w.heap.size ≤ b) w' w.heap.size (.slice A S'.length c) S'
/-- What stands while something is changed. -/
structure OdW (w0 w : World) (D : Nat) (R : List Int) (g c : Nat) (H : List HV) (S : List Shr) : Prop where
  dice : DiceAt w D R
  grown : w0.grownBy w (some D)
  rows : RowsI w w0.heap.size (.slice (some ⟨g, 0, none⟩) H.length c) H S
theorem OdW.mv {w0 w w' : World} {D : Nat} {R R' : List Int} {g c : Nat} {H : List HV} {S : List Shr} (h : OdW w0 w D R g c H S) (hD : D < w0.heap.size) (hd : DiceAt w' D R') (hg : w.grownBy w' (some D)) : OdW w0 w' D R' g c H S :=
  ⟨hd, grown_trans h.grown hg, h.rows.grown hg hD⟩
theorem OdW.alloc {w0 w : World} {D : Nat} {R : List Int} {g c : Nat} {H : List HV} {S : List Shr} (h : OdW w0 w D R g c H S) (o : Obj) : OdW w0 (w.alloc o) D R g c H S :=
  ⟨h.dice.alloc o, grown_trans h.grown (grown_of_below (below_alloc w o)), h.rows.below (below_alloc w o)⟩
theorem OdW.gb {w0 w : World} {D : Nat} {R : List Int} {g c : Nat} {H : List HV} {S : List Shr} (h : OdW w0 w D R g c H S) (_ : 0 < H.length) : g < w.heap.size ∧ w0.heap.size ≤ g := by
  have := World.ownsRow.lt h.rows.out g rfl
  exact ⟨this.2, this.1⟩
theorem OdW.cell {w0 w : World} {D : Nat} {R : List Int} {g c : Nat} {H : List HV} {S : List Shr} (h : OdW w0 w D R g c H S) (k : Nat) (hk : k < H.length) :
    ∃ B c', w.cell? ⟨g, k * 2, none⟩ = some (.int .i64 (hS S k)) ∧ w.cell? ⟨g, k * 2 + 1, none⟩ = some (.slice B (vS S k).length c') ∧ (hvAt H k).2 = .slice B (vS S k).length c' ∧ IntsP (fun b => w0.heap.size ≤ b ∧ b ≠ g) w B c' (vS S k) := by
  obtain ⟨g2, c2, hv, -, -, -, -, hcell, -⟩ := h.rows.out.form (by omega)
  injection hv with e1 e2 e3
  injection e1 with e1
  injection e1 with e1
  subst e1
  obtain ⟨a1, a2⟩ := hcell k hk
  obtain ⟨f1, B, c', f2, f3⟩ := h.rows.toV k (by rw [← h.rows.len]; exact hk)
  exact ⟨B, c', by rw [a1, f1], by rw [a2, f2], f2, f3.mono (fun b _ hb => ⟨hb.1, fun e => hb.2 (by rw [e]; rfl)⟩)⟩
theorem OdW.free {w0 w : World} {D : Nat} {R : List Int} {g c : Nat} {H : List HV} {S : List Shr} (h : OdW w0 w D R g c H S) (h0 : 0 < H.length) (j : Nat) : w.frozen? ⟨g, j, none⟩ = false := by
  obtain ⟨g2, c2, hv, -, -, -, -, -, hfr⟩ := h.rows.out.form h0
  injection hv with e1 e2 e3
  injection e1 with e1
  injection e1 with e1
  subst e1
  exact hfr j
theorem OdW.set {w0 w : World} {D : Nat} {R : List Int} {g c : Nat} {H : List HV} {S : List Shr} (h : OdW w0 w D R g c H S) (hD : D < w0.heap.size) (q : Addr) (u : Value) (hq : w0.heap.size ≤ q.block) : DiceAt (w.setCell q u) D R ∧ w0.grownBy (w.setCell q u) (some D) :=
  ⟨h.dice.setCell _ _ (by omega), grown_set h.grown _ _ hq⟩
theorem OdW.fr0 {w0 w : World} {D : Nat} {R : List Int} {g c : Nat} {H : List HV} {S : List Shr} (h : OdW w0 w D R g c H S) (h0 : 0 < H.length) (k : Nat) : w.frozen? ⟨g, k * 2, none⟩ = false := h.free h0 _
theorem OdW.fr1 {w0 w : World} {D : Nat} {R : List Int} {g c : Nat} {H : List HV} {S : List Shr} (h : OdW w0 w D R g c H S) (h0 : 0 < H.length) (k : Nat) : w.frozen? ⟨g, k * 2 + 1, none⟩ = false := h.free h0 _
theorem OdW.st0 {w0 w : World} {D : Nat} {R : List Int} {g c : Nat} {H : List HV} {S : List Shr} (h : OdW w0 w D R g c H S) (hD : D < w0.heap.size) (hg : w0.heap.size ≤ g) (k : Nat) (u : Value) : DiceAt (w.setCell ⟨g, k * 2, none⟩ u) D R ∧ w0.grownBy (w.setCell ⟨g, k * 2, none⟩ u) (some D) := h.set hD _ u hg
theorem OdW.st1 {w0 w : World} {D : Nat} {R : List Int} {g c : Nat} {H : List HV} {S : List Shr} (h : OdW w0 w D R g c H S) (hD : D < w0.heap.size) (hg : w0.heap.size ≤ g) (k : Nat) (u : Value) : DiceAt (w.setCell ⟨g, k * 2 + 1, none⟩ u) D R ∧ w0.grownBy (w.setCell ⟨g, k * 2 + 1, none⟩ u) (some D) := h.set hD _ u hg
/-- The end: what is handed back. -/
theorem odd_end {w0 w' : World} {D M : Nat} {R : List Int} {v : Value} {S S' : List Shr} (hD : D < w0.heap.size) (hR : RowsV (fun b => w0.heap.size ≤ b) w' w0.heap.size v S') (hl : S'.length ≤ S.length + 1) (hw : Wide (M + 1) S') (hd : DiceAt w' D R) (hg : w0.grownBy w' (some D)) :
    OddP D M S w0 (.returned v) w' := by
  obtain ⟨A, c, rfl, hX⟩ := hR.read
  exact ⟨A, c, S', R, rfl, hX.mono (fun b _ hb => by omega), hl, hw, hd, hg, hR⟩
theorem frzO {w : World} {g : Nat} {c : Array Value} {t : TypeId} (h : w.heap[g]? = some (.cells c t (0, 0))) (j : Nat) : w.frozen? ⟨g, j, none⟩ = false := by
  simp only [World.frozen?, h]; simp
theorem OddP.alloc {D M : Nat} {S : List Shr} {w w' : World} {e : Ending} (h : OddP D M S w e w') (o : Obj) : OddP D M S w e (w'.alloc o) := by
  obtain ⟨A, c, S', R', he, h1, h2, h3, h4, h5, h6⟩ := h
  exact ⟨A, c, S', R', he, h1.below (below_alloc w' o), h2, h3, h4.alloc o, grown_trans h5 (grown_of_below (below_alloc w' o)), h6.below (below_alloc w' o)⟩
theorem OddP.drew {D M : Nat} {S : List Shr} {w w' : World} {e : Ending} (h : OddP D M S w e w') : OddP D M S w e w'.drew := by
  obtain ⟨A, c, S', R', he, h1, h2, h3, h4, h5, h6⟩ := h
  exact ⟨A, c, S', R', he, h1.below (below_drewT w'), h2, h3, h4.drewN 1, grown_drew h5, h6.below (below_drewT w')⟩
theorem grown_low {w0 w w' : World} {D : Nat} (h : w0.grownBy w (some D)) (hb : Below w0.heap.size w w') : w0.grownBy w' (some D) :=
  ⟨hb.os.trans h.os, hb.tape.trans h.tape, hb.output.trans h.output, Nat.le_trans h.size hb.size, fun k hk hne => (hb.block k hk).trans (h.block k hk hne)⟩
theorem own_some {w : World} {base n c : Nat} {B : Option Addr} {e : TypeId} {xs : List Value} (h : w.ownsRow base e 1 (.slice B n c) n xs) (h0 : 0 < n) : ∃ b, B = some ⟨b, 0, none⟩ ∧ base ≤ b ∧ b < w.heap.size ∧ ∀ j, w.frozen? ⟨b, j, none⟩ = false := by
  have hlt := World.ownsRow.lt h
  rcases h.2 with ⟨_, h2⟩ | ⟨g, cap, cur, hv, hg, hh, -⟩
  · omega
  · injection hv with e1 e2 e3
    subst e1
    exact ⟨g, rfl, hg, (hlt g rfl).2, frzO hh⟩
theorem OdW.row_free {w0 w : World} {D : Nat} {R : List Int} {g c b c' k : Nat} {H : List HV} {S : List Shr} (h : OdW w0 w D R g c H S) (hk : k < S.length) (hv : (hvAt H k).2 = .slice (some ⟨b, 0, none⟩) (vS S k).length c') (h0 : 0 < (vS S k).length) : w.frozen? ⟨b, 0, none⟩ = false := by
  have hrow := h.rows.row k hk
  rw [hv] at hrow
  obtain ⟨b2, e, -, -, hfr⟩ := own_some hrow h0
  injection e with e; injection e with e
  subst e; exact hfr 0
theorem OdW.row_lt {w0 w : World} {D : Nat} {R : List Int} {g c b c' k : Nat} {H : List HV} {S : List Shr} (h : OdW w0 w D R g c H S) (hk : k < S.length) (hv : (hvAt H k).2 = .slice (some ⟨b, 0, none⟩) (vS S k).length c') (h0 : 0 < (vS S k).length) : b < w.heap.size := by
  have hrow := h.rows.row k hk
  rw [hv] at hrow
  obtain ⟨b2, e, -, hlt, -⟩ := own_some hrow h0
  injection e with e; injection e with e
  subst e; exact hlt
set_option maxRecDepth 100000 in
set_option maxHeartbeats 8000000 in
theorem odd_any {P : Nat → Prop} (D M : Nat) (R : List Int) (A : Option Addr) (c : Nat) (S : List Shr) (w : World) (hd : DiceAt w D R) (hS : ShP P w A c S) (hW : Wide M S) (hM : M ≤ 1000) (hl : S.length ≤ 100000) :
    Calls Tryd.prog 36 #[.pointer (some ⟨D, 0, none⟩), .slice A S.length c] w (OddP D M S w) := by
  have hlt := hd.lt
  have hsh : Short S := fun k hk => by have := hW k hk; omega
  have HW := Lib.hid hW
  have HCP := Lib.hid (copy_any A c S w hS hsh (by omega))
  have HD := Lib.hid hd
  clear hS hsh hd hW
  go_enter Tryd.func36, Tryd.ntmps36
  go_wp2_with fail
  refine HCP.out.mono ?_
  rintro e w1 ⟨v, H, rfl, hR, hb1⟩
  have HR := Lib.hid hR
  have hHS := hR.len
  clear HCP
  rcases Nat.eq_zero_or_pos H.length with h0 | h0
  · obtain ⟨A1, c1, rfl, hX⟩ := hR.read
    have hz : S.length = 0 := by omega
    have HX := Lib.hid (odd_end (D := D) (M := M) (S := S) (S' := S) (R := R) hlt hR.rowsV (by omega) HW.out.up (HD.out.below hb1) (grown_of_below hb1))
    rw [hz] at HX
    clear hR hX hb1 h0 hHS
    go_wp2_with fail
    go_ret
    exact HX.out
  · obtain ⟨g, c1, rfl, -, -, -, -, -, -⟩ := hR.out.form h0
    have HO : Hid (OdW w w1 D R g c1 H S) := Lib.hid ⟨HD.out.below hb1, grown_of_below hb1, HR.out⟩
    have HHS := Lib.hid hHS
    have hHl : H.length ≤ 100000 := by omega
    clear hR hb1 HR HD hHS
    have hne : ¬ (H.length : Int) = 0 := by omega
    go_wp2_with fail
    refine (next_nat D R _ _ HO.out.dice (by omega) (by omega)).mono ?_
    rintro e w2 ⟨i, rfl, hi, hD2, hg2⟩
    replace HO := Lib.hid (HO.out.mv hlt hD2 hg2)
    have hi' : i < H.length := by omega
    have i1 : (0 : Int) ≤ (i : Int) := by omega
    clear hD2 hg2
    go_wp2_with fail
    refine (next_nat D _ 8 _ HO.out.dice (by omega) (by omega)).mono ?_
    rintro e w3 ⟨m, rfl, hm, hD3, hg3⟩
    replace HO := Lib.hid (HO.out.mv hlt hD3 hg3)
    clear hD3 hg3
    obtain ⟨B, cB, q0, q1, hvi, hBI⟩ := HO.out.cell i hi'
    obtain ⟨B0, cB0, z0, z1, hv0, hBI0⟩ := HO.out.cell 0 h0
    have f0 := HO.out.free h0 (i * 2)
    have f1 := HO.out.free h0 (i * 2 + 1)
    have hgl := (HO.out.gb h0).1
    have hgw := (HO.out.gb h0).2
    have hiS : i < S.length := by have := HHS.out; omega
    have hWi := HW.out i hiS
    have HVI := Lib.hid (And.intro hvi hBI)
    have HV0 := Lib.hid (And.intro hv0 hBI0)
    clear hvi hBI hv0 hBI0
    rw [Nat.zero_mul] at z0 z1
    have hWi1 : (vS S i).length ≤ M + 1 := by omega
    have HLS := Lib.hid (show ∀ x : Shr, (S.set i x).length ≤ S.length + 1 from fun x => by simp)
    by_cases m1 : m = 1
    · subst m1
      go_wp2_with fail
      go_region_law (first
          | (refine step_next _ rfl (.tmp 28) 5 rfl rfl (by exact HO.out.dice) (by omega) (by omega) ?_; intro k w5 hk hD5 hg5; have hg6 : w3.grownBy w5 (some D) := (by first | exact hg5 | exact grown_undrew hg5); replace q0 := (grown_cell hg6 _ _ hgl (by omega)).trans q0; replace z0 := (grown_cell hg6 _ _ hgl (by omega)).trans z0; replace HO := Lib.hid (HO.out.mv hlt hD5 hg6); replace f0 := HO.out.fr0 h0 i; have hgl5 := (HO.out.gb h0).1; have hsz5 := hg6.size; have hcell := lit_list [0, 1, -1, 17, hS S 0] k (show k < 5 by omega); simp only [List.map] at hcell; have HF := Lib.hid (fun (y : Int) (o : Obj) => (odd_end hlt (HO.out.rows.hold_set i hiS y).rowsV (HLS.out _) (HW.out.set hWi1) (HO.out.st0 hlt hgw i (.int .i64 y)).1 (HO.out.st0 hlt hgw i (.int .i64 y)).2).alloc o))
          | (refine step_next _ rfl (.tmp 28) 5 rfl rfl (by exact (HO.out.alloc _).dice) (by omega) (by omega) ?_; intro k w5 hk hD5 hg5; have hg6 : (w3.alloc (.cells #[.int .i64 0, .int .i64 1, .int .i64 (-1), .int .i64 17, .int .i64 (hS S 0)] 3)).grownBy w5 (some D) := (by first | exact hg5 | exact grown_undrew hg5); have hcell := lit_early [0, 1, -1, 17, hS S 0] hg6 (by have := HO.out.dice.lt; omega) (show k < 5 by omega); replace q0 := (grown_cell hg6 _ _ (by simp; omega) (by omega)).trans ((World.cell?_alloc_past _ _ _ hgl).trans q0); replace z0 := (grown_cell hg6 _ _ (by simp; omega) (by omega)).trans ((World.cell?_alloc_past _ _ _ hgl).trans z0); replace HO := Lib.hid ((HO.out.alloc _).mv hlt hD5 hg6); replace f0 := HO.out.fr0 h0 i; have hgl5 := (HO.out.gb h0).1; have hsz5 := hg6.size; have HF := Lib.hid (fun (y : Int) => odd_end hlt (HO.out.rows.hold_set i hiS y).rowsV (HLS.out _) (HW.out.set hWi1) (HO.out.st0 hlt hgw i (.int .i64 y)).1 (HO.out.st0 hlt hgw i (.int .i64 y)).2)))
      all_goals
        generalize nth [0, 1, -1, 17, hS S 0] k = y at *
        clear hcell hD5 hg5 hg6
        go_wp2_with fail
        go_ret
        first
        | exact HF.out _ _
        | exact HF.out _
    · by_cases m2 : m = 2
      · subst m2
        go_wp2_with fail
        go_region_law (first
          | (refine step_next _ rfl (.tmp 41) 3 rfl rfl (by exact HO.out.dice) (by omega) (by omega) ?_; intro k w5 hk hD5 hg5; have hg6 : w3.grownBy w5 (some D) := (by first | exact hg5 | exact grown_undrew hg5); replace q1 := (grown_cell hg6 _ _ hgl (by omega)).trans q1; replace HO := Lib.hid (HO.out.mv hlt hD5 hg6); replace f1 := HO.out.fr1 h0 i; have hgl5 := (HO.out.gb h0).1; have hsz5 := HO.out.grown.size; have HOW := Lib.hid (show w5.ownsRow w.heap.size 3 1 (.slice B (vS S i).length cB) (vS S i).length (valsI (vS S i)) from by have := HO.out.rows.row i hiS; rw [HVI.out.1] at this; exact this))
          | (refine step_app_rowI _ rfl (.tmp 40) (.tmp 43) rfl w5 w.heap.size (.slice B (vS S i).length cB) (vS S i) (k : Int) rfl rfl ⟨rfl, rfl, rfl, rfl⟩ HOW.out (by omega) hsz5 ?_; intro g' cap w6 hown6 hg6' hbW6 hat6 hb6; have hbk := grown_blk (g := g) hgl5 (Below.refl _ _) hbW6 hg6' (fun e => HO.out.rows.no i hiS g (by rw [HVI.out.1]; exact e.symm) rfl); have n2 := (World.cell?_of_block (a := ⟨g, i * 2 + 1, none⟩) hbk).trans q1; have n3 := (frozen_of_block (o := i * 2 + 1) hbk).trans f1; have hgl6 : g < w6.heap.size := (Nat.lt_of_lt_of_le hgl5 hb6.size)))
        all_goals
          have hGR := HO.out.rows.grow i hiS (k : Int) g' cap hbW6 hown6 (by rw [HVI.out.1]; exact hg6') (by rw [HVI.out.1]; exact hat6)
          have hdc : DiceAt w6 D R.tail.tail.tail := HO.out.dice.keep (fun x hx => hb6.block x (by omega))
          have hgr6 := grown_low HO.out.grown hb6
          have hRV := hGR.rowsV
          have HF := Lib.hid (odd_end (M := M) (S := S) hlt hRV (by simp) (HW.out.set (by simp; omega)) (hdc.setCell ⟨g, i * 2 + 1, none⟩ (.slice (some ⟨g', 0, none⟩) ((vS S i).length + 1) cap) (show D < g by omega)) (grown_set hgr6 ⟨g, i * 2 + 1, none⟩ (.slice (some ⟨g', 0, none⟩) ((vS S i).length + 1) cap) hgw))
          clear hGR hdc hgr6 hown6 hg6' hbW6 hat6 hb6 hD5 hg5 hg6 hRV
          go_wp2_with fail
          go_ret
          exact HF.out
      · by_cases m3 : m = 3
        · subst m3
          by_cases h00 : 0 < (vS S i).length
          · have hrow := HO.out.rows.row i hiS
            rw [HVI.out.1] at hrow
            obtain ⟨b, rfl, -, -, -⟩ := own_some hrow h00
            have hcb := HVI.out.2.ok.len
            have n1 : (1 : Int) ≤ ((vS S i).length : Int) := by omega
            have n2 : ((vS S i).length : Int) ≤ (cB : Int) := by omega
            have HD1 := Lib.hid (HVI.out.2.drop1 h00)
            have hdl : ((vS S i).drop 1).length = (vS S i).length - 1 := by simp
            have HRV := Lib.hid (HO.out.rows.rowsV.val (k := i) HHS.out hiS HD1.out)
            rw [hdl] at HRV
            have hWd : ((vS S i).drop 1).length ≤ M + 1 := by omega
            have HF := Lib.hid (odd_end (M := M) (S := S) hlt HRV.out (HLS.out _) (HW.out.set hWd) (HO.out.st1 hlt hgw i _).1 (HO.out.st1 hlt hgw i _).2)
            clear hrow hdl hWd HRV HD1
            by_cases hc1 : cB = 1
            · subst hc1
              rw [if_pos rfl] at HF
              have hl1 : (vS S i).length - 1 = 0 := by omega
              rw [hl1] at HF
              clear hl1
              go_wp2_with fail
              go_ret
              exact HF.out
            · rw [if_neg hc1] at HF
              go_wp2_with fail
              go_ret
              exact HF.out
          · have hz : (vS S i).length = 0 := by omega
            rw [hz] at q1
            have HF := Lib.hid (odd_end (M := M) (S := S) hlt HO.out.rows.rowsV (by omega) HW.out.up HO.out.dice HO.out.grown)
            clear hz
            go_wp2_with fail
            go_ret
            exact HF.out
        · by_cases m4 : m = 4
          · subst m4
            by_cases h00 : 0 < (vS S i).length
            · have hrow := HO.out.rows.row i hiS
              rw [HVI.out.1] at hrow
              obtain ⟨b, rfl, hbw, hbl, hfr⟩ := own_some hrow h00
              have fb := hfr 0
              obtain ⟨b2, off2, eb, -, y0⟩ := HVI.out.2.ints 0 h00
              injection eb with eb
              injection eb with e1 e2
              subst e1; subst e2
              rw [Nat.zero_add] at y0
              have hbg : ¬ b = g := by
                rcases HVI.out.2.off b 0 rfl with h | h
                · omega
                · exact h.2
              have hbg2 : ¬ g = b := fun e => hbg e.symm
              have n1 : (0 : Int) < ((vS S i).length : Int) := by omega
              have HLV := Lib.hid (show ∀ y : Int, ((vS S i).set 0 y).length ≤ M + 1 from fun y => by simp; omega)
              obtain ⟨yv, hyv⟩ : ∃ yv, yv = nth (vS S i) 0 := ⟨_, rfl⟩
              rw [← hyv] at y0
              clear hrow hfr hyv
              go_wp2_with fail
              go_region_law (first
                  | (refine step_next _ rfl (.tmp 83) 4 rfl rfl (by exact HO.out.dice) (by omega) (by omega) ?_; intro k w5 hk hD5 hg5; have hg6 : w3.grownBy w5 (some D) := (by first | exact hg5 | exact grown_undrew hg5); replace q1 := (grown_cell hg6 _ _ hgl (by omega)).trans q1; replace y0 := (grown_cell hg6 _ _ hbl (by omega)).trans y0; replace HO := Lib.hid (HO.out.mv hlt hD5 hg6); replace fb := (HO.out.row_free hiS HVI.out.1 h00); have hgl5 := (HO.out.gb h0).1; have hbl5 := (HO.out.row_lt hiS HVI.out.1 h00); have hsz5 := hg6.size; have hcell := lit_list [-1, 1073741824, IntKind.i64.wrap (yv + 1), 0] k (show k < 4 by omega); simp only [List.map] at hcell; have HF := Lib.hid (fun (y : Int) (o : Obj) => (odd_end hlt (HO.out.rows.val_set i hiS HVI.out.1 h00 y).rowsV (HLS.out _) (HW.out.set (HLV.out y)) (HO.out.set hlt ⟨b, 0, none⟩ (.int .i64 y) hbw).1 (HO.out.set hlt ⟨b, 0, none⟩ (.int .i64 y) hbw).2).alloc o))
                  | (refine step_next _ rfl (.tmp 83) 4 rfl rfl (by exact (HO.out.alloc _).dice) (by omega) (by omega) ?_; intro k w5 hk hD5 hg5; have hg6 : (w3.alloc (.cells #[.int .i64 (-1), .int .i64 1073741824, .int .i64 (IntKind.i64.wrap (yv + 1)), .int .i64 0] 3)).grownBy w5 (some D) := (by first | exact hg5 | exact grown_undrew hg5); have hcell := lit_early [-1, 1073741824, IntKind.i64.wrap (yv + 1), 0] hg6 (by have := HO.out.dice.lt; omega) (show k < 4 by omega); replace q1 := (grown_cell hg6 _ _ (by simp; omega) (by omega)).trans ((World.cell?_alloc_past _ _ _ hgl).trans q1); replace y0 := (grown_cell hg6 _ _ (by simp; omega) (by omega)).trans ((World.cell?_alloc_past _ _ _ hbl).trans y0); replace HO := Lib.hid ((HO.out.alloc _).mv hlt hD5 hg6); replace fb := (HO.out.row_free hiS HVI.out.1 h00); have hgl5 := (HO.out.gb h0).1; have hbl5 := (HO.out.row_lt hiS HVI.out.1 h00); have hsz5 := hg6.size; have HF := Lib.hid (fun (y : Int) => odd_end hlt (HO.out.rows.val_set i hiS HVI.out.1 h00 y).rowsV (HLS.out _) (HW.out.set (HLV.out y)) (HO.out.set hlt ⟨b, 0, none⟩ (.int .i64 y) hbw).1 (HO.out.set hlt ⟨b, 0, none⟩ (.int .i64 y) hbw).2)))
              all_goals
                generalize nth [-1, 1073741824, IntKind.i64.wrap (yv + 1), 0] k = y at *
                clear hcell hD5 hg5 hg6
                go_wp2_with fail
                go_ret
                first
                | exact HF.out _ _
                | exact HF.out _
            · have hz : (vS S i).length = 0 := by omega
              rw [hz] at q1
              have HF := Lib.hid (odd_end (M := M) (S := S) hlt HO.out.rows.rowsV (by omega) HW.out.up HO.out.dice HO.out.grown)
              clear hz
              go_wp2_with fail
              go_ret
              exact HF.out
          · by_cases m5 : m = 5
            · subst m5
              go_wp2_with (at_builtin; refine app_hv rfl (.tmp 90) (.tmp 94) rfl (base := w.heap.size) (H := H) (v := .slice (some ⟨g, 0, none⟩) H.length c1) (hS S 0, .slice B0 (vS S 0).length cB0) rfl (HO.out.rows.out.below (below_alloc _ _)) rfl (heap_alloc_new _ _) rfl (by omega) (by simp; omega) ?_; intro v6 w6 hown6 hg6 hb6 hv6)
              have hA := HO.out.alloc (.cells #[.int .i64 (hS S 0), .slice B0 (vS S 0).length cB0] 53)
              have hI0 : IntsP (fun b => w.heap.size ≤ b ∧ (Value.slice (some ⟨g, 0, none⟩) H.length c1).ownBlock ≠ some b) (w3.alloc (.cells #[.int .i64 (hS S 0), .slice B0 (vS S 0).length cB0] 53)) B0 cB0 (vS S 0) :=
                (HV0.out.2.keep (Kept.below (below_alloc _ _))).mono (fun b _ hb => ⟨hb.1, fun e => hb.2 (Option.some.inj (show some g = some b from e)).symm⟩)
              have hM5 := RowsV.more HHS.out hA.rows.toV (hS S 0) (vS S 0) hI0 hown6 hg6 hv6
              have hd6 : DiceAt w6 D R.tail.tail := hA.dice.keep (fun x hx => hb6.block x (by omega))
              have HF := Lib.hid (odd_end (M := M) (S := S) hlt hM5 (by simp) (HW.out.app (HW.out 0 (by omega))) hd6 (grown_low hA.grown hb6))
              clear hA hI0 hM5 hd6 hown6 hg6 hb6 hv6
              go_wp2_with fail
              go_ret
              exact HF.out
            · have e1 : ¬ (m : Int) = 1 := by omega
              have e2 : ¬ (m : Int) = 2 := by omega
              have e3 : ¬ (m : Int) = 3 := by omega
              have e4 : ¬ (m : Int) = 4 := by omega
              have e5 : ¬ (m : Int) = 5 := by omega
              have HF := Lib.hid (odd_end (M := M) (S := S) hlt HO.out.rows.rowsV (by omega) HW.out.up HO.out.dice HO.out.grown)
              go_wp2_with fail
              go_ret
              exact HF.out
end Go.Proofs.YtlhipgejiacklaaDoor
namespace Go.Proofs.YtlhipgejiacklaaDoor
open Go.RowKit

theorem dlL_len {p n h : Int} {sec ran : List Int} : (dlL p n h sec ran).length ≤ 16 := by
  unfold dlL
  by_cases e : dlE p n h sec ran = 0
  · rw [if_pos e, deal_len]
    have hpl : plB p n h = true := by
      rcases hp : plB p n h with _ | _
      · rw [dlE_pl hp] at e; cases e
      · rfl
    obtain ⟨b1, b2, b3, b4, b5⟩ : PlanP p n h := of_decide_eq_true hpl
    omega
  · rw [if_neg e]; exact Nat.zero_le _
theorem dlL_short {p n h : Int} {sec ran : List Int} (hl : sec.length ≤ 1048576) : Short (shL (dlL p n h sec ran)) := by
  refine short_shL fun k hk => ?_
  by_cases e : dlE p n h sec ran = 0
  · have hd : dlL p n h sec ran = dealN p.toNat n.toNat h.toNat (sec.map Int.toNat) (ran.map Int.toNat) := by unfold dlL; rw [if_pos e]
    rw [hd] at hk ⊢
    rw [deal_len] at hk
    rw [show dealN p.toNat n.toNat h.toNat (sec.map Int.toNat) (ran.map Int.toNat) = dealtT p.toNat h.toNat (sec.map Int.toNat) (ran.map Int.toNat) (n.toNat - 1) (sec.map Int.toNat).length from rfl, (dealtT_at hk).2]
    simpa using hl
  · rw [dlL_no e] at hk; exact absurd hk (by simp)

/-- A list of numbers, as a slice. -/
structure LI where
  ad : Option Addr
  cp : Nat
  ls : List Int
def LI.val (x : LI) : Value := .slice x.ad x.ls.length x.cp
/-- Block g holds slices of lists of numbers. -/
structure LsAt (P : Nat → Prop) (w : World) (g : Nat) (X : List LI) : Prop where
  blk : w.heap[g]? = some (.cells (X.map LI.val).toArray 22 (0, 0))
  ints : ∀ x ∈ X, IntsP P w x.ad x.cp x.ls ∧ x.ls.length ≤ 1048576
theorem LsAt.lt {P : Nat → Prop} {w : World} {g : Nat} {X : List LI} (H : LsAt P w g X) : g < w.heap.size := blk_lt H.blk
theorem LsAt.keep {P : Nat → Prop} {w w' : World} {g : Nat} {X : List LI} (H : LsAt P w g X) (hk : Kept P w w') (hg : w'.heap[g]? = w.heap[g]?) : LsAt P w' g X :=
  ⟨hg.trans H.blk, fun x hx => ⟨(H.ints x hx).1.keep hk, (H.ints x hx).2⟩⟩
theorem LsAt.below {P : Nat → Prop} {w w' : World} {g : Nat} {X : List LI} (H : LsAt P w g X) (hb : Below w.heap.size w w') : LsAt P w' g X := H.keep (Kept.below hb) (hb.block g H.lt)
theorem LsAt.at_ {P : Nat → Prop} {w : World} {g : Nat} {X : List LI} (H : LsAt P w g X) (i : Nat) (hi : i < X.length) :
    ∃ A c L, w.cell? ⟨g, i, none⟩ = some (.slice A L.length c) ∧ IntsP P w A c L ∧ L.length ≤ 1048576 := by
  refine ⟨X[i].ad, X[i].cp, X[i].ls, ?_, H.ints _ (List.getElem_mem hi)⟩
  rw [cell_of_row w g i _ _ (0, 0) H.blk]
  simp [hi, LI.val]
/-- Block g holds three plans. -/
def Plan3 (w : World) (g : Nat) (a b c d e f x y z : Int) : Prop := w.heap[g]? = some (.cells #[.int .i64 a, .int .i64 b, .int .i64 c, .int .i64 d, .int .i64 e, .int .i64 f, .int .i64 x, .int .i64 y, .int .i64 z] 28 (0, 0))
theorem Plan3.at_ {w : World} {g : Nat} {a b c d e f x y z : Int} (H : Plan3 w g a b c d e f x y z) (i : Nat) (hi : i < 3) :
    ∃ P N Q : Int, w.cell? ⟨g, i * 3, none⟩ = some (.int .i64 P) ∧ w.cell? ⟨g, i * 3 + 1, none⟩ = some (.int .i64 N) ∧ w.cell? ⟨g, i * 3 + 2, none⟩ = some (.int .i64 Q) := by
  have h : ∀ j, w.cell? ⟨g, j, none⟩ = (#[.int .i64 a, .int .i64 b, .int .i64 c, .int .i64 d, .int .i64 e, .int .i64 f, .int .i64 x, .int .i64 y, .int .i64 z] : Array Value)[j]? := fun j => cell_of_row w g j _ _ (0, 0) H
  obtain rfl | rfl | rfl : i = 0 ∨ i = 1 ∨ i = 2 := by omega
  · exact ⟨a, b, c, h 0, h 1, h 2⟩
  · exact ⟨d, e, f, h 3, h 4, h 5⟩
  · exact ⟨x, y, z, h 6, h 7, h 8⟩
/-- What stands while plans are tried. -/
structure DSt (w0 w : World) (D : Nat) (R : List Int) (px p n q pl : Nat) (a b c d e f x y z : Int) (A1 : Option Addr) (c1 : Nat) (L1 : List Int) (A2 : Option Addr) (c2 : Nat) (L2 : List Int) (GA : Option Addr) (gc : Nat) (G : List Nat) : Prop where
  env : Env w0 w D R
  pp : PlanCell w px p n q
  p3 : Plan3 w pl a b c d e f x y z
  s1 : IntsP (· ≠ D) w A1 c1 L1
  s2 : IntsP (· ≠ D) w A2 c2 L2
  gd : IntsP (· ≠ D) w GA gc (ofN G)
  ne : px ≠ D
  nl : pl ≠ D
section
variable {w0 w w' : World} {D : Nat} {R R' : List Int} {px p n q pl : Nat} {a b c d e f x y z : Int} {A1 : Option Addr} {c1 : Nat} {L1 : List Int} {A2 : Option Addr} {c2 : Nat} {L2 : List Int} {GA : Option Addr} {gc : Nat} {G : List Nat}
theorem DSt.below (H : DSt w0 w D R px p n q pl a b c d e f x y z A1 c1 L1 A2 c2 L2 GA gc G) (hb : Below w.heap.size w w') : DSt w0 w' D R px p n q pl a b c d e f x y z A1 c1 L1 A2 c2 L2 GA gc G :=
  ⟨H.env.mv hb, H.pp.below hb, (hb.block _ (blk_lt H.p3)).trans H.p3, H.s1.keep (Kept.below hb), H.s2.keep (Kept.below hb), H.gd.keep (Kept.below hb), H.ne, H.nl⟩
theorem DSt.mv (H : DSt w0 w D R px p n q pl a b c d e f x y z A1 c1 L1 A2 c2 L2 GA gc G) (hd : DiceAt w' D R') (hg : w.grownBy w' (some D)) : DSt w0 w' D R' px p n q pl a b c d e f x y z A1 c1 L1 A2 c2 L2 GA gc G :=
  ⟨H.env.next hd hg, H.pp.mv hg H.ne, (hg.block _ (blk_lt H.p3) (fun e => H.nl (Option.some.inj e))).trans H.p3, H.s1.keep (Kept.mv hg), H.s2.keep (Kept.mv hg), H.gd.keep (Kept.mv hg), H.ne, H.nl⟩
end
theorem LsAt.mv {w w' : World} {D g : Nat} {X : List LI} (H : LsAt (· ≠ D) w g X) (hg : w.grownBy w' (some D)) (hne : g ≠ D) : LsAt (· ≠ D) w' g X := H.keep (Kept.mv hg) (hg.block g H.lt (fun e => hne (Option.some.inj e)))
theorem LsAt.two {P : Nat → Prop} {w : World} {g c1 c2 : Nat} {A1 A2 : Option Addr} {L1 L2 : List Int} (hg : w.heap[g]? = some (.cells #[.slice A1 L1.length c1, .slice A2 L2.length c2] 22 (0, 0))) (h1 : IntsP P w A1 c1 L1) (h2 : IntsP P w A2 c2 L2) (hl1 : L1.length ≤ 1048576) (hl2 : L2.length ≤ 1048576) :
    LsAt P w g [⟨A1, c1, L1⟩, ⟨A2, c2, L2⟩] :=
  ⟨hg, fun x hx => by simp at hx; rcases hx with rfl | rfl; exact ⟨h1, hl1⟩; exact ⟨h2, hl2⟩⟩
theorem LsAt.three {P : Nat → Prop} {w : World} {g c1 c2 : Nat} {A1 A2 : Option Addr} {L1 L2 : List Int} (hg : w.heap[g]? = some (.cells #[.slice A1 L1.length c1, .slice A2 L2.length c2, .slice none 0 0] 22 (0, 0))) (h1 : IntsP P w A1 c1 L1) (h2 : IntsP P w A2 c2 L2) (hl1 : L1.length ≤ 1048576) (hl2 : L2.length ≤ 1048576) :
    LsAt P w g [⟨A1, c1, L1⟩, ⟨A2, c2, L2⟩, ⟨none, 0, []⟩] :=
  ⟨hg, fun x hx => by simp at hx; rcases hx with rfl | rfl | rfl; exact ⟨h1, hl1⟩; exact ⟨h2, hl2⟩; exact ⟨IntsP.nil _ _, by simp⟩⟩
theorem elems_new2 {D n p : Nat} {w w' : World} {e : Ending} (h : ElemsP D n p w e w') :
    ∃ A c L R', e = .returned (.slice A L.length c) ∧ L.length = n ∧ (∀ x ∈ L, x < p) ∧ SlOK A c L ∧ IntsP (fun b => w.heap.size ≤ b) w' A c (ofN L) ∧ DiceAt w' D R' ∧ w.grownBy w' (some D) := by
  obtain ⟨v, L, R', rfl, hL, hp, hown, hd, hg⟩ := h
  obtain ⟨A, c, rfl, h1, h2, h3⟩ := own_sl hown rfl
  exact ⟨A, c, L, R', rfl, hL, hp, h2, ⟨h1.ints, by rw [len_ofN]; exact h2.iok, fun b off e => .inr (h3 b off e).1⟩, hd, hg⟩
end Go.Proofs.YtlhipgejiacklaaDoor
namespace Go.Proofs.YtlhipgejiacklaaDoor
open Go.RowKit

def smB (S : List Shr) : Bool := S.all (fun s => decide (s.2.length ≤ 20)) && decide (S.length ≤ 12)
theorem smB_no {S : List Shr} {k : Nat} (hk : k < S.length) (h : ¬ (vS S k).length ≤ 20) : false = smB S := by
  unfold smB
  have : S.all (fun s => decide (s.2.length ≤ 20)) = false := by
    rw [List.all_eq_false]
    exact ⟨S[k], List.getElem_mem hk, by simp [vS, List.getD_eq_getElem?_getD, hk] at h; simp; omega⟩
  rw [this]; rfl
theorem smB_yes {S : List Shr} (h : ∀ j, j < S.length → (vS S j).length ≤ 20) : decide ((S.length : Int) ≤ 12) = smB S := by
  unfold smB
  have : S.all (fun s => decide (s.2.length ≤ 20)) = true := by
    rw [List.all_eq_true]
    intro s hs
    obtain ⟨k, hk, rfl⟩ := List.getElem_of_mem hs
    have := h k hk
    simp [vS, List.getD_eq_getElem?_getD, hk] at this
    simp; exact this
  rw [this, Bool.true_and, Bool.eq_iff_iff, decide_eq_true_eq, decide_eq_true_eq]; omega
theorem smB_of {S : List Shr} (h : smB S = true) : S.length ≤ 12 ∧ Wide 20 S := by
  unfold smB at h
  rw [Bool.and_eq_true, List.all_eq_true, decide_eq_true_eq] at h
  refine ⟨h.2, fun k hk => ?_⟩
  have := h.1 S[k] (List.getElem_mem hk)
  simp [vS, List.getD_eq_getElem?_getD, hk]; simpa using this
set_option maxRecDepth 100000 in
set_option maxHeartbeats 1000000 in
theorem small_any {P : Nat → Prop} (A : Option Addr) (c : Nat) (S : List Shr) (w : World) (hS : ShP P w A c S) (hl : S.length ≤ maxLen) :
    Calls Tryd.prog 34 #[.slice A S.length c] w (RetB (.bool (smB S)) w) := by
  have hl2 : S.length ≤ 9223372036854775807 := by unfold maxLen at hl; omega
  have HS := Lib.hid hS
  clear hS
  go_enter Tryd.func34, Tryd.ntmps34
  go_wp2_with fail
  go_loopw [7] (fun i wr => ∃ k : Nat, k ≤ S.length ∧ i = .int .i64 k ∧ (∀ j, j < k → (vS S j).length ≤ 20) ∧ Below w.heap.size w wr) (fun i _ => S.length - (intOf i).toNat)
  case atStart => exact ⟨0, Nat.zero_le _, rfl, fun j hj => absurd hj (by omega), Below.refl _ _⟩
  case round =>
    obtain ⟨k, hk, rfl, hpre, hbr⟩ := hrel
    have HP := Lib.hid hpre
    have hsz := hbr.size
    clear hpre
    by_cases hlt : k < S.length
    · obtain ⟨b, off, B, c', rfl, hbl, -, q0, q1, -⟩ := (HS.out.below hbr).at_ k hlt
      by_cases h20 : (vS S k).length ≤ 20
      · have H20 := Lib.hid h20
        have t : decide ((20 : Int) < ((vS S k).length : Int)) = false := decide_eq_false (by omega)
        go_wp2_with fail
        go_roundw
        case rel =>
          refine ⟨k + 1, by omega, by go_num, fun j hj => ?_, below_trans hbr (below_alloc _ _)⟩
          by_cases hjk : j = k
          · subst hjk; exact H20.out
          · exact HP.out j (by omega)
        case measure => simp [intOf]; omega
      · have HV := Lib.hid (smB_no hlt h20)
        have t : decide ((20 : Int) < ((vS S k).length : Int)) = true := decide_eq_true (by omega)
        go_wp2_with fail
        go_ret
        exact RetB.bool HV.out (below_trans hbr (below_alloc _ _))
    · obtain rfl : k = S.length := by omega
      have HV := Lib.hid (smB_yes HP.out)
      go_wp2_with fail
      go_ret
      exact RetB.bool HV.out hbr

/-- A list of shares, as a slice. -/
structure SI where
  ad : Option Addr
  cp : Nat
  ls : List Shr
def SI.val (x : SI) : Value := .slice x.ad x.ls.length x.cp
/-- Block g holds slices of shares. -/
structure SsAt (P : Nat → Prop) (w : World) (g : Nat) (X : List SI) : Prop where
  blk : w.heap[g]? = some (.cells (X.map SI.val).toArray 31 (0, 0))
  shs : ∀ x ∈ X, ShP P w x.ad x.cp x.ls ∧ x.ls.length ≤ 20 ∧ Wide 30 x.ls
theorem SsAt.lt {P : Nat → Prop} {w : World} {g : Nat} {X : List SI} (H : SsAt P w g X) : g < w.heap.size := blk_lt H.blk
theorem SsAt.keep {P : Nat → Prop} {w w' : World} {g : Nat} {X : List SI} (H : SsAt P w g X) (hk : Kept P w w') (hg : w'.heap[g]? = w.heap[g]?) : SsAt P w' g X :=
  ⟨hg.trans H.blk, fun x hx => ⟨(H.shs x hx).1.keep hk, (H.shs x hx).2⟩⟩
theorem SsAt.below {P : Nat → Prop} {w w' : World} {g : Nat} {X : List SI} (H : SsAt P w g X) (hb : Below w.heap.size w w') : SsAt P w' g X := H.keep (Kept.below hb) (hb.block g H.lt)
theorem SsAt.mv {w w' : World} {D g : Nat} {X : List SI} (H : SsAt (· ≠ D) w g X) (hg : w.grownBy w' (some D)) (hne : g ≠ D) : SsAt (· ≠ D) w' g X := H.keep (Kept.mv hg) (hg.block g H.lt (fun e => hne (Option.some.inj e)))
theorem SsAt.at_ {P : Nat → Prop} {w : World} {g : Nat} {X : List SI} (H : SsAt P w g X) (i : Nat) (hi : i < X.length) :
    ∃ A c S, w.cell? ⟨g, i, none⟩ = some (.slice A S.length c) ∧ ShP P w A c S ∧ S.length ≤ 20 ∧ Wide 30 S := by
  refine ⟨X[i].ad, X[i].cp, X[i].ls, ?_, H.shs _ (List.getElem_mem hi)⟩
  rw [cell_of_row w g i _ _ (0, 0) H.blk]
  simp [hi, SI.val]
theorem Wide.mono {M K : Nat} {S : List Shr} (h : Wide M S) (hk : M ≤ K) : Wide K S := fun k hk' => by have := h k hk'; omega
theorem Wide.short {M : Nat} {S : List Shr} (h : Wide M S) (hk : M ≤ 1048576) : Short S := fun k hk' => by have := h k hk'; omega
/-- What stands while lists of shares are tried. -/
structure CSt (w0 w : World) (D : Nat) (R : List Int) (px p n h ox m : Nat) (LA : Option Addr) (lc : Nat) (N : List ShN) (g : Nat) (X : List SI) : Prop where
  env : Env w0 w D R
  pp : PlanCell w px p n h
  po : PlanCell w ox p m h
  ll : ShP (· ≠ D) w LA lc (shL N)
  ss : SsAt (· ≠ D) w g X
  ne : px ≠ D
  no : ox ≠ D
  ng : g ≠ D
section
variable {w0 w w' : World} {D : Nat} {R R' : List Int} {px p n h ox m : Nat} {LA : Option Addr} {lc : Nat} {N : List ShN} {g : Nat} {X : List SI}
theorem CSt.below (H : CSt w0 w D R px p n h ox m LA lc N g X) (hb : Below w.heap.size w w') : CSt w0 w' D R px p n h ox m LA lc N g X :=
  ⟨H.env.mv hb, H.pp.below hb, H.po.below hb, H.ll.below hb, H.ss.below hb, H.ne, H.no, H.ng⟩
theorem CSt.mv (H : CSt w0 w D R px p n h ox m LA lc N g X) (hd : DiceAt w' D R') (hg : w.grownBy w' (some D)) : CSt w0 w' D R' px p n h ox m LA lc N g X :=
  ⟨H.env.next hd hg, H.pp.mv hg H.ne, H.po.mv hg H.no, H.ll.mv hg, H.ss.mv hg H.ng, H.ne, H.no, H.ng⟩
end
theorem OddP.open_ {D M : Nat} {S : List Shr} {w w' : World} {e : Ending} (h : OddP D M S w e w') : ∃ (A : Option Addr) (c : Nat) (S' : List Shr) (R' : List Int), e = .returned (.slice A S'.length c) ∧ ShP (· ≠ D) w' A c S' ∧ S'.length ≤ S.length + 1 ∧ Wide (M + 1) S' ∧ DiceAt w' D R' ∧ w.grownBy w' (some D) := by
  obtain ⟨A, c, S', R', h0, h1, h2, h3, h4, h5, -⟩ := h
  exact ⟨A, c, S', R', h0, h1, h2, h3, h4, h5⟩
/-- Two equal lists, for a region. -/
theorem sameB (A A' : Option Addr) (L : List Nat) (k k' c c' : Nat) (w : World) (hL : NatsAt w A L) (hM : NatsAt w A' L) (hl : L.length ≤ 1152921504606846976) (hk : k = L.length) (hk' : k' = L.length) :
    Calls Tryd.prog 29 #[.slice A k c, .slice A' k' c'] w (RetB (.bool true) w) := by
  refine (same_at A A' L k k' c c' w hL hM hl hk hk').mono ?_
  rintro e w' ⟨rfl, rfl⟩
  exact ⟨rfl, Below.refl _ _⟩
theorem cmL_len {p n h : Int} {S : List Shr} (hW : Wide 30 S) (hl : S.length ≤ 20) : (cmL p n h S).length ≤ 1000 := by
  unfold cmL
  by_cases e : cmE p n h S = 0
  · rw [if_pos e, combN_len]
    rcases Nat.eq_zero_or_pos S.length with h0 | h0
    · have : S = [] := List.eq_nil_of_length_eq_zero h0
      subst this; simp [natL, vN]
    · have := hW 0 h0
      have e2 : (vN (natL S) 0).length = (vS S 0).length := by simp [vN, vS, natL, natS, List.getD_eq_getElem?_getD, h0]
      omega
  · rw [if_neg e]; simp
theorem adL_len {p n h x y : Int} {L M : List Int} (hL : L.length ≤ 1000) (hM : M.length ≤ 1000) : (adL p n h x y L M).length ≤ 1000 := by
  unfold adL
  split
  · rw [linN_len]; simp; omega
  · simp
theorem lit_sh {P : Nat → Prop} {w : World} {g c : Nat} {x : Int} {B : Option Addr} {L : List Int} (hw : w.heap[g]? = some (.cells #[.int .i64 x, .slice B L.length c] 53 (0, 0))) (hP : P g) (hI : IntsP P w B c L) : ShP P w (some ⟨g, 0, none⟩) 1 [(x, L)] := by
  refine ⟨fun k hk => ?_, ⟨by simp, by unfold maxLen; omega, (fun e => by cases e), .inr (fun a e => by injection e with e; subst e; rfl)⟩⟩
  have hk0 : k = 0 := by simp at hk; omega
  subst hk0
  refine ⟨g, 0, B, c, rfl, blk_lt hw, hP, ?_, ?_, hI⟩
  · rw [cell_of_row w g _ _ _ (0, 0) hw]; rfl
  · rw [cell_of_row w g _ _ _ (0, 0) hw]; rfl
theorem short_one {x : Int} {L : List Int} (hL : L.length ≤ 1048576) : Short [(x, L)] := fun k hk => by
  have hk0 : k = 0 := by simp at hk; omega
  subst hk0; exact hL
theorem SsAt.five {P : Nat → Prop} {w : World} {g c1 c2 c3 c4 c5 k1 k2 k3 k4 k5 : Nat} {A1 A2 A3 A4 A5 : Option Addr} {S1 S2 S3 S4 S5 : List Shr} (hg : w.heap[g]? = some (.cells #[.slice A1 k1 c1, .slice A2 k2 c2, .slice A3 k3 c3, .slice A4 k4 c4, .slice A5 k5 c5] 31 (0, 0)))
    (e1 : k1 = S1.length) (e2 : k2 = S2.length) (e3 : k3 = S3.length) (e4 : k4 = S4.length) (e5 : k5 = S5.length)
    (h1 : ShP P w A1 c1 S1 ∧ S1.length ≤ 20 ∧ Wide 30 S1) (h2 : ShP P w A2 c2 S2 ∧ S2.length ≤ 20 ∧ Wide 30 S2) (h3 : ShP P w A3 c3 S3 ∧ S3.length ≤ 20 ∧ Wide 30 S3) (h4 : ShP P w A4 c4 S4 ∧ S4.length ≤ 20 ∧ Wide 30 S4) (h5 : ShP P w A5 c5 S5 ∧ S5.length ≤ 20 ∧ Wide 30 S5) :
    SsAt P w g [⟨A1, c1, S1⟩, ⟨A2, c2, S2⟩, ⟨A3, c3, S3⟩, ⟨A4, c4, S4⟩, ⟨A5, c5, S5⟩] := by
  subst e1 e2 e3 e4 e5
  exact ⟨hg, fun x hx => by simp at hx; rcases hx with rfl | rfl | rfl | rfl | rfl; exact h1; exact h2; exact h3; exact h4; exact h5⟩
theorem turnZ {P : Nat → Prop} (D : Nat) (R : List Int) (A : Option Addr) (c k : Nat) (N : List ShN) (w : World) (hd : DiceAt w D R) (hS : ShP P w A c (shL N)) (hsh : Short (shL N)) (hl : N.length ≤ 100000) (hk : k = N.length) :
    Calls Tryd.prog 28 #[.pointer (some ⟨D, 0, none⟩), .slice A k c, .int .i64 0] w (TurnM D N 0 w) :=
  turn_made D R A c k N 0 w hd hS hsh hl (by omega) hk
theorem turnI {P : Nat → Prop} (D : Nat) (R : List Int) (A : Option Addr) (c k : Nat) (N : List ShN) (w : World) (hd : DiceAt w D R) (hS : ShP P w A c (shL N)) (hsh : Short (shL N)) (hl : N.length ≤ 100000) (hk : k = N.length) :
    Calls Tryd.prog 28 #[.pointer (some ⟨D, 0, none⟩), .slice A k c, .int .i64 1] w (TurnM D N 1 w) :=
  turn_made D R A c k N 1 w hd hS hsh hl (by omega) hk
theorem oddN {P : Nat → Prop} (D M : Nat) (R : List Int) (A : Option Addr) (c k : Nat) (N : List ShN) (w : World) (hd : DiceAt w D R) (hS : ShP P w A c (shL N)) (hW : Wide M (shL N)) (hM : M ≤ 1000) (hl : N.length ≤ 100000) (hk : k = N.length) :
    Calls Tryd.prog 36 #[.pointer (some ⟨D, 0, none⟩), .slice A k c] w (OddP D M (shL N) w) := by
  have := odd_any D M R A c (shL N) w hd hS hW hM (by rw [shL_len]; exact hl)
  rw [shL_len, ← hk] at this; exact this
theorem Made.wide {p n h : Nat} {sec : List Nat} {N : List ShN} (H : Made p n h sec N) {M : Nat} (hm : sec.length ≤ M) : Wide M (shL N) := fun k hk => by
  rw [shL_len] at hk
  rw [vS_shL, len_ofN, H.vlen hk]; exact hm
theorem ShP.two {w w' : World} {D o : Nat} {A : Option Addr} {c : Nat} {S : List Shr} (h : ShP (fun b => b ≠ D ∧ b ≠ o) w A c S) (hg : w.grownBy w' (some D)) : ShP (fun b => b ≠ D ∧ b ≠ o) w' A c S :=
  h.keep ⟨hg.size, fun b hb hlt => (Kept.mv hg).block b hb.1 hlt⟩
theorem ShP.set2 {w : World} {D o j : Nat} {A : Option Addr} {c : Nat} {S : List Shr} (h : ShP (fun b => b ≠ D ∧ b ≠ o) w A c S) (u : Value) : ShP (· ≠ D) (w.setCell ⟨o, j, none⟩ u) A c S :=
  (h.keep ⟨by simp [World.setCell], fun b hb _ => Below.heap_setCell w ⟨o, j, none⟩ u b hb.2⟩).mono (fun _ _ hb => hb.1)
theorem blk2_1 (w : World) (a b : Obj) : ((w.alloc a).alloc b).heap[w.heap.size]? = some a := (heap_alloc_old _ b (by simp)).trans (heap_alloc_new w a)
theorem blk2_2 (w : World) (a b : Obj) : ((w.alloc a).alloc b).heap[w.heap.size + 1]? = some b := by
  have h1 := heap_alloc_new (w.alloc a) b
  rw [size_alloc] at h1
  exact h1
theorem blk_old {w : World} {x : Nat} {a : Obj} (b : Obj) (h : w.heap[x]? = some a) : (w.alloc b).heap[x]? = some a := (heap_alloc_old w b (blk_lt h)).trans h
theorem blk3_2 (w : World) (a b c : Obj) : (((w.alloc a).alloc b).alloc c).heap[w.heap.size + 1]? = some b := by
  have h1 := heap_alloc_new (w.alloc a) b
  rw [size_alloc] at h1
  exact (heap_alloc_old _ c (by simp)).trans h1
theorem blk3_3 (w : World) (a b c : Obj) : (((w.alloc a).alloc b).alloc c).heap[w.heap.size + 1 + 1]? = some c := by
  have h1 := heap_alloc_new ((w.alloc a).alloc b) c
  rw [size_alloc, size_alloc] at h1
  exact h1
theorem Plan3.below {w w' : World} {g : Nat} {a b c d e f x y z : Int} (H : Plan3 w g a b c d e f x y z) (hb : Below w.heap.size w w') : Plan3 w' g a b c d e f x y z := (hb.block _ (blk_lt H)).trans H
end Go.Proofs.YtlhipgejiacklaaDoor
namespace Go.Proofs.YtlhipgejiacklaaDoor
open Go.RowKit

theorem refZero_made (p n h m j : Nat) (P : PlanN p n h) (hm : m ≤ 2048) (B : Option Addr) (cb : Nat) (ran : List Nat) (w : World) (hR : NatsAt w B ran) (hok : SlOK B cb ran) (hl2 : ran.length ≤ 1048576) (hr : ∀ x ∈ ran, x < p) (hl : ran.length = m * (n - 1)) (hj : j = ran.length) :
    Calls Tryd.prog 35 #[planV p n h, .int .i64 (m : Int), .slice B j cb] w (DealR (dealN p n h (List.replicate m 0) ran) h w) := by
  subst hj
  have := refZero_deal p n h m P hm B cb (ofN ran) w hR.ints (by rw [len_ofN]; exact hok.iok) (by rw [len_ofN]; exact hl2)
  obtain ⟨e1, e2⟩ := dlE_made P hm hr hl
  rw [e1, e2, len_ofN] at this
  refine this.mono ?_
  rintro e w' ⟨A', c', rfl, h1, h2⟩
  exact ⟨A', c', by rw [shL_len, deal_len], h1, h2⟩
theorem iok_lit (g n : Nat) (h : n ≤ 1000) : IOK (some ⟨g, 0, none⟩) n n := ⟨Nat.le_refl _, by unfold maxLen; omega, (fun e => by cases e), .inr (fun a e => by injection e with e; subst e; rfl)⟩
theorem lists_three {w : World} {g c1 c2 c3 k1 k2 k3 : Nat} {A1 A2 A3 : Option Addr} {S1 S2 S3 : List Shr} {P1 P2 P3 : Nat → Prop} (hg : w.heap[g]? = some (.cells #[.slice A1 k1 c1, .slice A2 k2 c2, .slice A3 k3 c3] 31 (0, 0)))
    (e1 : k1 = S1.length) (e2 : k2 = S2.length) (e3 : k3 = S3.length) (h1 : ShP P1 w A1 c1 S1) (h2 : ShP P2 w A2 c2 S2) (h3 : ShP P3 w A3 c3 S3) : ListsP (fun _ => True) w (some ⟨g, 0, none⟩) 3 [S1, S2, S3] := by
  subst e1 e2 e3
  have hlt := blk_lt hg
  refine ⟨fun k hk => ?_, iok_lit g 3 (by omega)⟩
  have : k = 0 ∨ k = 1 ∨ k = 2 := by simp at hk; omega
  rcases this with rfl | rfl | rfl
  · exact ⟨g, 0, A1, c1, rfl, hlt, trivial, by rw [cell_of_row w g _ _ _ (0, 0) hg]; rfl, h1.any⟩
  · exact ⟨g, 0, A2, c2, rfl, hlt, trivial, by rw [cell_of_row w g _ _ _ (0, 0) hg]; rfl, h2.any⟩
  · exact ⟨g, 0, A3, c3, rfl, hlt, trivial, by rw [cell_of_row w g _ _ _ (0, 0) hg]; rfl, h3.any⟩
theorem lists_one {w : World} {g c1 k1 : Nat} {A1 : Option Addr} {S1 : List Shr} {P1 : Nat → Prop} (hg : w.heap[g]? = some (.cells #[.slice A1 k1 c1] 31 (0, 0)))
    (e1 : k1 = S1.length) (h1 : ShP P1 w A1 c1 S1) : ListsP (fun _ => True) w (some ⟨g, 0, none⟩) 1 [S1] := by
  subst e1
  have hlt := blk_lt hg
  refine ⟨fun k hk => ?_, iok_lit g 1 (by omega)⟩
  have : k = 0 := by simp at hk; omega
  subst this
  exact ⟨g, 0, A1, c1, rfl, hlt, trivial, by rw [cell_of_row w g _ _ _ (0, 0) hg]; rfl, h1.any⟩
theorem lists_nil (w : World) : ListsP (fun _ => True) w none 0 [] := ⟨fun k hk => absurd hk (by simp), IOK.none0⟩
theorem shortLs_three {S1 S2 S3 : List Shr} (h1 : Short S1 ∧ S1.length ≤ 100000) (h2 : Short S2 ∧ S2.length ≤ 100000) (h3 : Short S3 ∧ S3.length ≤ 100000) : ShortLs [S1, S2, S3] := fun k hk => by
  have : k = 0 ∨ k = 1 ∨ k = 2 := by simp at hk; omega
  rcases this with rfl | rfl | rfl
  · exact h1
  · exact h2
  · exact h3
theorem shortLs_one {S1 : List Shr} (h1 : Short S1 ∧ S1.length ≤ 100000) : ShortLs [S1] := fun k hk => by
  have : k = 0 := by simp at hk; omega
  subst this; exact h1
theorem shortLs_nil : ShortLs [] := fun k hk => absurd hk (by simp)
theorem short_nil : Short ([] : List Shr) := fun k hk => absurd hk (by simp)
theorem sumR_ok {p h : Nat} : ∀ (r : List (List Shr)) (S : List Shr), (Short S ∧ S.length ≤ 100000) → (∀ Z ∈ r, Short Z) → Short (sumR p h S r).1 ∧ (sumR p h S r).1.length ≤ 100000
  | [], S, hS, _ => hS
  | Z :: r, S, hS, hr => by
    unfold sumR
    by_cases he : aE p h S Z = 0
    · rw [if_pos he]
      exact sumR_ok r _ ⟨aT_short hS.1 (hr Z (by simp)), by rw [aT_len he]; exact hS.2⟩ (fun Y hY => hr Y (by simp [hY]))
    · rw [if_neg he]; exact ⟨short_nil, by simp⟩
theorem su_ok {p h : Nat} {Ls : List (List Shr)} (hs : ShortLs Ls) : Short (suL p h Ls) ∧ (suL p h Ls).length ≤ 100000 := by
  unfold suL
  split
  · exact ⟨short_nil, by simp⟩
  · rename_i h0
    split
    · refine sumR_ok _ _ (hs 0 (by omega)) fun Z hZ => ?_
      obtain ⟨j, hj, rfl⟩ := List.getElem_of_mem hZ
      have hj' : 1 + j < Ls.length := by rw [List.length_drop] at hj; omega
      have := (hs (1 + j) hj').1
      rw [List.getElem_drop]
      unfold lsAt at this
      rw [List.getD_eq_getElem?_getD, List.getElem?_eq_getElem hj'] at this
      exact this
    · exact ⟨short_nil, by simp⟩
theorem su_nil (p h : Nat) : suE p h [] = 5 ∧ suL p h [] = [] := ⟨if_pos rfl, if_pos rfl⟩
theorem zr_ok {p n h : Nat} {k : Int} {ran : List Int} : Short (shL (zrL p n h k ran)) ∧ (shL (zrL p n h k ran)).length ≤ 100000 := by
  unfold zrL
  split
  · exact ⟨fun k hk => absurd hk (by simp [shL]), by simp [shL]⟩
  · refine ⟨dlL_short (by rw [len_ofN, List.length_replicate]; omega), ?_⟩
    rw [shL_len]
    have := dlL_len (p := p) (n := n) (h := h) (sec := ofN (List.replicate k.toNat 0)) (ran := ran)
    omega
theorem at_ok {p h : Nat} {S Z : List Shr} (hS : Short S) (hZ : Short Z) (hl : S.length ≤ 100000) : Short (shL (aT p h S Z)) ∧ (shL (aT p h S Z)).length ≤ 100000 := by
  refine ⟨aT_short hS hZ, ?_⟩
  by_cases he : aE p h S Z = 0
  · rw [aT_len he]; exact hl
  · unfold aT; rw [if_neg he]; simp [shL]
theorem sameR {P P' : Nat → Prop} (A A' : Option Addr) (S : List Shr) (c c' k k' : Nat) (w : World) (hA : ShP P w A c S) (hA' : ShP P' w A' c' S) (hsh : Short S) (hl : S.length ≤ 100000) (hk : k = S.length) (hk' : k' = S.length) :
    Calls Tryd.prog 30 #[.slice A k c, .slice A' k' c'] w (RetB (.bool true) w) := same_sh A A' S c c' k k' w hA hA' hsh (by omega) hk hk'
end Go.Proofs.YtlhipgejiacklaaDoor
namespace Go.Proofs.YtlhipgejiacklaaDoor
open Go.RowKit

theorem hvAt_app2 {H K : List HV} {k : Nat} : hvAt (H ++ K) (H.length + k) = hvAt K k := by simp [hvAt, List.getD_eq_getElem?_getD, List.getElem?_append_right]
theorem hS_app2 {S K : List Shr} {k : Nat} : hS (S ++ K) (S.length + k) = hS K k ∧ vS (S ++ K) (S.length + k) = vS K k := by simp [hS, vS, List.getD_eq_getElem?_getD, List.getElem?_append_right]
/-- A list that came in behind a row of the own. -/
theorem app_rows {ops : Array Oper} {rest : List Oper} {o : Oper} {a : Act} {Q : Exit → Act → World → Prop} (hgd : o.guard = none) (s x : Operand)
    (ho : o.op = .call { callee := .builtin .append, args := #[s, x], argTypes := #[31, 31] })
    {base D : Nat} {w : World} {v : Value} {S RS : List Shr} {RA : Option Addr} {n rc : Nat} (hs : a.eval s = v) (hx : a.eval x = .slice RA n rc) (hn : n = RS.length) (hv : RowsV (fun b => base ≤ b) w base v S)
    (hR : ShP (fun b => b ≠ D ∧ b < base) w RA rc RS) (hD : D < base) (hl : S.length ≤ 1000) (hl2 : RS.length ≤ 1000) (hbase : base ≤ w.heap.size)
    (h : ∀ A' c' w', ShP (· ≠ D) w' A' c' (S ++ RS) → Below base w w' → wpList Tryd.prog ops Q rest (a.put o.dst (.slice A' (S ++ RS).length c')) w') :
    wpList Tryd.prog ops Q (o :: rest) a w := by
  subst hn
  obtain ⟨H0, e1, e2, e3⟩ := hv.ex
  obtain ⟨i0, hi, hz0, hz1, hz2⟩ := info_parts info_share
  rcases RA with _ | ad
  · obtain rfl := hR.ok.nil rfl
    have hz : RS = [] := List.eq_nil_of_length_eq_zero (by have := hR.ok.len; omega)
    subst hz
    obtain ⟨A, c, hv2, hS⟩ := hv.read
    refine wpList_append_own_none hgd s x 31 ho base 53 i0 2 Tryd.underlying31 hi v H0.length (flatH H0) hs e1 hx ?_
    have h1 := h A c w (by rw [List.append_nil]; exact hS.mono (fun b _ hb => by show b ≠ D; rcases hb with hb | hb <;> omega)) (Below.refl _ _)
    rw [List.append_nil, ← hv2] at h1; exact h1
  · obtain ⟨H, h1, h2, h3⟩ := hR.flat
    refine wpList_append_own_at w hgd s x 31 ho base 53 i0 _ 2 32 Tryd.underlying31 hi hz0 hz1 hz2 rfl (by omega) v H0.length (flatH H0) hs e1 ad RS.length rc (flatH H) hx (by rw [flatH_len, h1]) h3 (flatH_one H (fun k hk => by obtain ⟨-, B, c', e, -⟩ := h2 k (by omega); rw [e]; rfl)) (by unfold maxLen; omega) (by omega) hbase ?_
    intro v' w' g1 g2 _ g4
    have hown : HvOwn w' base v' (H0 ++ H) := by unfold HvOwn; rw [flatH_append, List.length_append, h1]; exact g1
    have hlo := World.ownsRow.lt e1
    have key : ∀ {B : Option Addr} {c : Nat} {L : List Int}, IntsP (fun b => b ≠ D ∧ v.ownBlock ≠ some b) w B c L → IntsP (fun b => b ≠ D ∧ v'.ownBlock ≠ some b) w' B c L := fun hI =>
      ((hI.mono (Q := fun b => (b ≠ D ∧ v'.ownBlock ≠ some b) ∧ v.ownBlock ≠ some b) (fun b hlt hb => ⟨⟨hb.1, fun e => by
        rcases g4 with g | g
        · exact hb.2 (g ▸ e)
        · rw [g] at e; injection e with e; omega⟩, hb.2⟩)).keep (w' := w') ⟨g2.size, fun b hb hlt => g2.block b hlt (fun e => hb.2 e.symm)⟩).mono (fun b _ hb => hb.1)
    have hRV : RowsV (fun b => b ≠ D) w' base v' (S ++ RS) := by
      refine ⟨H0 ++ H, hown, by simp [e2, h1], fun k hk => ?_⟩
      rcases Nat.lt_or_ge k S.length with h | h
      · obtain ⟨f1, B, c, f2, f3⟩ := e3 k h
        rw [hvAt_append (by omega), (hS_append h).1, (hS_append h).2]
        exact ⟨f1, B, c, f2, key (f3.mono (fun b _ hb => ⟨by have := hb.1; omega, hb.2⟩))⟩
      · obtain ⟨j, rfl⟩ : ∃ j, k = S.length + j := ⟨k - S.length, by omega⟩
        rw [List.length_append] at hk
        obtain ⟨f1, B, c, f2, f3⟩ := h2 j (by omega)
        rw [hS_app2.1, hS_app2.2, show S.length + j = H0.length + j by omega, hvAt_app2]
        exact ⟨f1, B, c, f2, key (f3.mono (fun b _ hb => ⟨hb.1, fun e => by have := (hlo b e).1; have := hb.2; omega⟩))⟩
    obtain ⟨A, c, hv2, hS⟩ := hRV.read
    have h1 := h A c w' (hS.mono (fun b _ hb => by
      show b ≠ D
      rcases hb with hb | hb
      · omega
      · exact hb)) ((Below.refl _ _).grown g2 hbase (fun k hk => (hlo k hk).1))
    rw [← hv2] at h1; exact h1

theorem grown_bl {w0 w1 w2 : World} {D : Nat} (hg : w0.grownBy w1 (some D)) (hb : Below w0.heap.size w1 w2) : w0.grownBy w2 (some D) :=
  ⟨hb.os.trans hg.os, hb.tape.trans hg.tape, hb.output.trans hg.output, Nat.le_trans hg.size hb.size, fun k hk hne => (hb.block k hk).trans (hg.block k hk hne)⟩
theorem Wide.cat {M : Nat} {S K : List Shr} (h1 : Wide M S) (h2 : Wide M K) : Wide M (S ++ K) := fun k hk => by
  rcases Nat.lt_or_ge k S.length with h | h
  · rw [(hS_append h).2]; exact h1 k h
  · obtain ⟨j, rfl⟩ : ∃ j, k = S.length + j := ⟨k - S.length, by omega⟩
    rw [List.length_append] at hk
    rw [hS_app2.2]; exact h2 j (by omega)
/-- What stands during the walk of ReshareActs. -/
structure ASt (w0 w : World) (D : Nat) (R : List Int) (px py p n h : Nat) (p' n' h' : Int) (LA : Option Addr) (lc : Nat) (N : List ShN) (RA : Option Addr) (rc : Nat) (RS : List Shr) (A1 : Option Addr) (c1 : Nat) (L1 : List Int) (A2 : Option Addr) (c2 : Nat) (L2 : List Int) (GA : Option Addr) (gc : Nat) (good : List Nat) : Prop where
  env : Env w0 w D R
  pp : PlanCell w px p n h
  pq : PlanCell w py p' n' h'
  ll : ShP (· ≠ D) w LA lc (shL N)
  rr : ShP (· ≠ D) w RA rc RS
  f1 : IntsP (· ≠ D) w A1 c1 L1
  f2 : IntsP (· ≠ D) w A2 c2 L2
  gd : IntsP (· ≠ D) w GA gc (ofN good)
  nx : px ≠ D
  ny : py ≠ D
section
variable {w0 w w' : World} {D : Nat} {R R' : List Int} {px py p n h : Nat} {p' n' h' : Int} {LA : Option Addr} {lc : Nat} {N : List ShN} {RA : Option Addr} {rc : Nat} {RS : List Shr} {A1 : Option Addr} {c1 : Nat} {L1 : List Int} {A2 : Option Addr} {c2 : Nat} {L2 : List Int} {GA : Option Addr} {gc : Nat} {good : List Nat}
theorem ASt.mv (H : ASt w0 w D R px py p n h p' n' h' LA lc N RA rc RS A1 c1 L1 A2 c2 L2 GA gc good) (he : Env w0 w' D R') (hg : w.grownBy w' (some D)) : ASt w0 w' D R' px py p n h p' n' h' LA lc N RA rc RS A1 c1 L1 A2 c2 L2 GA gc good :=
  ⟨he, H.pp.mv hg H.nx, H.pq.mv hg H.ny, H.ll.mv hg, H.rr.mv hg, H.f1.keep (Kept.mv hg), H.f2.keep (Kept.mv hg), H.gd.keep (Kept.mv hg), H.nx, H.ny⟩
theorem ASt.next (H : ASt w0 w D R px py p n h p' n' h' LA lc N RA rc RS A1 c1 L1 A2 c2 L2 GA gc good) (hd : DiceAt w' D R') (hg : w.grownBy w' (some D)) : ASt w0 w' D R' px py p n h p' n' h' LA lc N RA rc RS A1 c1 L1 A2 c2 L2 GA gc good := H.mv (H.env.next hd hg) hg
theorem ASt.below (H : ASt w0 w D R px py p n h p' n' h' LA lc N RA rc RS A1 c1 L1 A2 c2 L2 GA gc good) (hb : Below w.heap.size w w') : ASt w0 w' D R px py p n h p' n' h' LA lc N RA rc RS A1 c1 L1 A2 c2 L2 GA gc good :=
  ⟨H.env.mv hb, H.pp.below hb, H.pq.below hb, H.ll.below hb, H.rr.below hb, H.f1.keep (Kept.below hb), H.f2.keep (Kept.below hb), H.gd.keep (Kept.below hb), H.nx, H.ny⟩
end
theorem RowsV.mono {Q Q' : Nat → Prop} {w : World} {base : Nat} {v : Value} {S : List Shr} (h : RowsV Q w base v S) (hQ : ∀ b, b < w.heap.size → Q b → Q' b) : RowsV Q' w base v S := by
  obtain ⟨H, e1, e2, e3⟩ := h.ex
  refine ⟨H, e1, e2, fun k hk => ?_⟩
  obtain ⟨f1, B, c, f2, f3⟩ := e3 k hk
  exact ⟨f1, B, c, f2, f3.mono (fun b hlt hb => ⟨hQ b hlt hb.1, hb.2⟩)⟩
/-- Holders and parts under way, each in a row of its own. -/
structure HPt (w : World) (base : Nat) (f g : Value) (hs : List Int) (S : List Shr) : Prop where
  own : w.ownsRow base 3 1 f hs.length (valsI hs)
  rows : RowsV (fun b => base ≤ b ∧ f.ownBlock ≠ some b) w base g S
  ne : ∀ b, f.ownBlock = some b → g.ownBlock ≠ some b
section
variable {w w' W w9 : World} {base D : Nat} {f f' g g' : Value} {hs hs' : List Int} {S : List Shr}
theorem HPt.nil (w : World) (base : Nat) : HPt w base (.slice none 0 0) (.slice none 0 0) [] [] := ⟨World.ownsRow_nil _ _ _ _, RowsV.nil _ _ _, fun b e => by cases e⟩
theorem HPt.below (h : HPt w base f g hs S) (hb : Below w.heap.size w w') : HPt w' base f g hs S := ⟨own_below h.own hb, h.rows.below hb, h.ne⟩
theorem HPt.glt (h : HPt w base f g hs S) (b : Nat) (e : g.ownBlock = some b) : base ≤ b ∧ b < w.heap.size := by
  obtain ⟨H, e1, -, -⟩ := h.rows.ex
  exact World.ownsRow.lt e1 b e
theorem HPt.mv (h : HPt w base f g hs S) (hg : w.grownBy w' (some D)) (hD : D < base) : HPt w' base f g hs S := by
  refine ⟨World.ownsRow.kept h.own hg ?_, h.rows.kept hg ?_ (fun b hb e => by have := hb.1; injection e with e; omega), h.ne⟩
  · rcases hf : f.ownBlock with _ | b
    · exact .inl rfl
    · right; intro e; injection e with e; have := (World.ownsRow.lt h.own b hf).1; omega
  · rcases hf : g.ownBlock with _ | b
    · exact .inl rfl
    · right; intro e; injection e with e; have := (h.glt b hf).1; omega
theorem HPt.push1 (h : HPt W base f g hs S) (hown : w9.ownsRow base 3 1 f' hs'.length (valsI hs')) (hg : W.grownBy w9 f.ownBlock) (hv : ∀ b, f'.ownBlock = some b → f.ownBlock = some b ∨ W.heap.size ≤ b) : HPt w9 base f' g hs' S := by
  have h1 : RowsV (fun b => (base ≤ b ∧ f'.ownBlock ≠ some b) ∧ f.ownBlock ≠ some b) W base g S := h.rows.mono (fun b hlt hb => ⟨⟨hb.1, fun e => by
    rcases hv b e with h2 | h2
    · exact hb.2 h2
    · omega⟩, hb.2⟩)
  refine ⟨hown, (h1.kept hg ?_ (fun b hb => hb.2)).mono (fun b _ hb => hb.1), fun b e e' => ?_⟩
  · rcases hgo : g.ownBlock with _ | b
    · exact .inl rfl
    · right; intro e; exact h.ne b e.symm hgo
  · rcases hv b e with h2 | h2
    · exact h.ne b h2 e'
    · have := (h.glt b e').2; omega
theorem HPt.push2 {H : List HV} (h : HPt W base f g hs S) (e2 : H.length = S.length)
    (e3 : ∀ k, k < S.length → (hvAt H k).1 = hS S k ∧ ∃ B c, (hvAt H k).2 = .slice B (vS S k).length c ∧ IntsP (fun b => (base ≤ b ∧ f.ownBlock ≠ some b) ∧ g.ownBlock ≠ some b) W B c (vS S k))
    (x : Int) (L : List Int) {B : Option Addr} {c : Nat} (hI : IntsP (fun b => (base ≤ b ∧ f.ownBlock ≠ some b) ∧ g.ownBlock ≠ some b) W B c L) (hown : HvOwn w9 base g' (H ++ [(x, .slice B L.length c)])) (hg : W.grownBy w9 g.ownBlock)
    (hv : g'.ownBlock = g.ownBlock ∨ g'.ownBlock = some W.heap.size) : HPt w9 base f g' hs (S ++ [(x, L)]) := by
  refine ⟨World.ownsRow.kept h.own hg ?_, RowsV.more e2 e3 x L hI hown hg hv, fun b e e' => ?_⟩
  · rcases hfo : f.ownBlock with _ | b
    · exact .inl rfl
    · right; intro e; exact h.ne b hfo e.symm
  · rcases hv with h2 | h2
    · exact h.ne b e (h2 ▸ e')
    · rw [h2] at e'; injection e' with e'; have := (World.ownsRow.lt h.own b e).2; omega
end
theorem SsAt.three {P : Nat → Prop} {w : World} {g c1 c2 c3 k1 k2 k3 : Nat} {A1 A2 A3 : Option Addr} {S1 S2 S3 : List Shr} (hg : w.heap[g]? = some (.cells #[.slice A1 k1 c1, .slice A2 k2 c2, .slice A3 k3 c3] 31 (0, 0)))
    (e1 : k1 = S1.length) (e2 : k2 = S2.length) (e3 : k3 = S3.length)
    (h1 : ShP P w A1 c1 S1 ∧ S1.length ≤ 20 ∧ Wide 30 S1) (h2 : ShP P w A2 c2 S2 ∧ S2.length ≤ 20 ∧ Wide 30 S2) (h3 : ShP P w A3 c3 S3 ∧ S3.length ≤ 20 ∧ Wide 30 S3) :
    SsAt P w g [⟨A1, c1, S1⟩, ⟨A2, c2, S2⟩, ⟨A3, c3, S3⟩] := by
  subst e1 e2 e3
  exact ⟨hg, fun x hx => by simp at hx; rcases hx with rfl | rfl | rfl; exact h1; exact h2; exact h3⟩
/-- The same list of numbers so many times. -/
theorem own_reps {w : World} {base D t gc : Nat} {v : Value} {GA : Option Addr} {good : List Nat} (h : w.ownsRow base 22 1 v t (List.replicate t (.slice GA good.length gc))) (hI : IntsP (fun b => b ≠ D ∧ b < base) w GA gc (ofN good)) (hS : SlOK GA gc good) (hD : D < base) : ∃ A c, v = .slice A t c ∧ LstP (· ≠ D) w A c (List.replicate t good) := by
  have hlo := World.ownsRow.lt h
  have hR : RowsG PhiL 22 (fun b => b ≠ D) w base v (List.replicate t good) := ⟨List.replicate t (.slice GA good.length gc), by rw [List.length_replicate]; exact h, by simp, fun k hk => by
    rw [List.length_replicate] at hk
    refine ⟨.slice GA good.length gc, by simp [hk], ?_⟩
    simp only [List.getElem_replicate]
    exact ⟨GA, gc, rfl, hS, hI.mono (fun b _ hb => ⟨hb.1, fun e => by have := (hlo b e).1; have := hb.2; omega⟩)⟩⟩
  obtain ⟨A, c, e, hL⟩ := hR.lst
  rw [List.length_replicate] at e
  exact ⟨A, c, e, hL.mono (fun b _ hb => by
    show b ≠ D
    rcases hb with hb | hb
    · omega
    · exact hb)⟩
theorem spL_len {p h : Nat} {p' n' h' x : Int} {L ran : List Int} : (spL p h p' n' h' x L ran).length ≤ 16 := by
  unfold spL
  split
  · split
    · exact dlL_len
    · simp
  · simp
theorem spL_short {p h : Nat} {p' n' h' x : Int} {L ran : List Int} (hl : L.length ≤ 1048576) : Short (shL (spL p h p' n' h' x L ran)) := by
  unfold spL
  split
  · split
    · exact dlL_short hl
    · exact fun k hk => absurd hk (by simp [shL])
  · exact fun k hk => absurd hk (by simp [shL])

theorem LsAt.atB {P : Nat → Prop} {w : World} {g M : Nat} {X : List LI} (H : LsAt P w g X) (hM : ∀ x ∈ X, x.ls.length ≤ M) (i : Nat) (hi : i < X.length) :
    ∃ A c L, w.cell? ⟨g, i, none⟩ = some (.slice A L.length c) ∧ IntsP P w A c L ∧ L.length ≤ M := by
  refine ⟨X[i].ad, X[i].cp, X[i].ls, ?_, (H.ints _ (List.getElem_mem hi)).1, hM _ (List.getElem_mem hi)⟩
  rw [cell_of_row w g i _ _ (0, 0) H.blk]
  simp [hi, LI.val]
theorem SsAt.atB {P : Nat → Prop} {w : World} {g M : Nat} {X : List SI} (H : SsAt P w g X) (hM : ∀ x ∈ X, x.ls.length ≤ M) (i : Nat) (hi : i < X.length) :
    ∃ A c S, w.cell? ⟨g, i, none⟩ = some (.slice A S.length c) ∧ ShP P w A c S ∧ S.length ≤ M ∧ Wide 30 S := by
  refine ⟨X[i].ad, X[i].cp, X[i].ls, ?_, (H.shs _ (List.getElem_mem hi)).1, hM _ (List.getElem_mem hi), (H.shs _ (List.getElem_mem hi)).2.2⟩
  rw [cell_of_row w g i _ _ (0, 0) H.blk]
  simp [hi, SI.val]
theorem dealN_wide {p n h M : Nat} {sec ran : List Nat} (hl : sec.length ≤ M) : Wide M (shL (dealN p n h sec ran)) := fun k hk => by
  rw [shL_len, deal_len] at hk
  rw [vS_shL, len_ofN, show dealN p n h sec ran = dealtT p h sec ran (n - 1) sec.length from rfl, (dealtT_at hk).2]
  simpa using hl
theorem dlL_wide {p n h : Int} {M : Nat} {sec ran : List Int} (hl : sec.length ≤ M) : Wide M (shL (dlL p n h sec ran)) := by
  by_cases e : dlE p n h sec ran = 0
  · have hd : dlL p n h sec ran = dealN p.toNat n.toNat h.toNat (sec.map Int.toNat) (ran.map Int.toNat) := by unfold dlL; rw [if_pos e]
    rw [hd]; exact dealN_wide (by simpa using hl)
  · rw [dlL_no e]; exact fun k hk => absurd hk (by simp [shL])
theorem spL_wide {p h M : Nat} {p' n' h' x : Int} {L ran : List Int} (hl : L.length ≤ M) : Wide M (shL (spL p h p' n' h' x L ran)) := by
  unfold spL
  split
  · split
    · exact dlL_wide hl
    · exact fun k hk => absurd hk (by simp [shL])
  · exact fun k hk => absurd hk (by simp [shL])
theorem jnV_le {p n h M : Nat} {p' n' h' : Int} {F : List Int} {S : List Shr} (hW : Wide M S) : (jnV p n h p' n' h' F S).length ≤ M := by
  unfold jnV
  split
  · refine joinV_le _ fun i hi => ?_
    have := hW i hi
    have e2 : (vN (natL S) i).length = (vS S i).length := by simp [vN, vS, natL, natS, List.getD_eq_getElem?_getD, hi]
    omega
  · exact Nat.zero_le _
theorem mvL_short {p n h r : Nat} {p' n' h' : Int} {S : List Shr} {good : List Nat} (P : PlanN p n h) (hW : Wide 30 S) : Short (shL (mvL p n h p' n' h' S good r)) ∧ (shL (mvL p n h p' n' h' S good r)).length ≤ 100000 := by
  rw [shL_len]
  by_cases e : mvE p n h p' n' h' S good r = 0
  · have h0 : cmE p n h S = 0 := Classical.byContradiction fun hc => hc (by rw [mv_cm hc] at e; exact e)
    cases hto : toB p p' n' h' with
    | false => rw [mv_to h0 hto] at e; cases e
    | true =>
      obtain ⟨n1, h1, rfl, rfl, rfl, P'⟩ := toB_nat P hto
      have eL : mvL p n h p n1 h1 S good r = movedN p n1 h1 (natL S) (List.replicate r good) n := by unfold mvL; rw [if_pos e]; simp
      rw [eL]
      refine ⟨short_shL fun k hk => ?_, by rw [movedN_len]; have := P'.h7; omega⟩
      rw [movedN_len] at hk
      rw [(movedN_at hk).2]
      refine Nat.le_trans (joinV_le (m := 30) _ fun i hi => ?_) (by omega)
      rw [(givenN_at hi).2, (deal_row P.p1 hk).2.1]
      rcases Nat.lt_or_ge i S.length with hiS | hiS
      · have := hW i hiS
        have e2 : (vN (natL S) i).length = (vS S i).length := by simp [vN, vS, natL, natS, List.getD_eq_getElem?_getD, hiS]
        omega
      · have e3 : vN (natL S) i = [] := by unfold vN; rw [List.getD_eq_getElem?_getD, List.getElem?_eq_none (by rw [natL_len]; exact hiS)]; rfl
        rw [e3]; exact Nat.zero_le _
  · unfold mvL
    rw [if_neg e]
    exact ⟨fun k hk => absurd hk (by simp [shL]), Nat.zero_le _⟩

end Go.Proofs.YtlhipgejiacklaaDoor
