/-
  Budgets: Clean, the program's.
-/
import Derived.Test.YtmnkgfimdlhhiaaBudH
namespace Go.Proofs.Ytmnkgfimdlhhiaa
open Go.RowKit

def goneT (P t : Int) (y : Spd) : Bool := decide (y.1 / P < t / P)
def keepC (P t : Int) (y : Spd) : Bool := decide (t / P * P ≤ y.1)
theorem gone_keep {P t : Int} (hP : 1 ≤ P) (S : List Spd) : (S.filter fun y => !goneT P t y) = S.filter (keepC P t) := by
  congr 1
  funext y
  unfold goneT keepC
  have := Int.ediv_lt_iff_lt_mul (a := y.1) (b := t / P) (c := P) (by omega)
  by_cases h : y.1 < t / P * P
  · rw [decide_eq_true (this.2 h), decide_eq_false (by omega)]; rfl
  · rw [decide_eq_false (fun h2 => h (this.1 h2)), decide_eq_true (by omega)]; rfl
noncomputable def clE (P A : Int) (S : List Spd) (t : Int) : Int := @ite _ (¬ BudOK P A S) (Classical.propDecidable _) 56 (if ¬ (0 ≤ t ∧ t ≤ 1099511627776) then 16 else 0)
noncomputable def clS (P A : Int) (S : List Spd) (t : Int) : List Spd := if clE P A S t = 0 then S.filter (keepC P t) else S
theorem clE_bad {P A : Int} {S : List Spd} {t : Int} (h : ¬ BudOK P A S) : 56 = clE P A S t := by
  unfold clE; rw [@if_pos _ (Classical.propDecidable _) h]
theorem clE_time {P A : Int} {S : List Spd} {t : Int} (h : BudOK P A S) (h2 : ¬ (0 ≤ t ∧ t ≤ 1099511627776)) : 16 = clE P A S t := by
  unfold clE; rw [@if_neg _ (Classical.propDecidable _) (fun hh => hh h), if_pos h2]
theorem clE_ok {P A : Int} {S : List Spd} {t : Int} (h : BudOK P A S) (h2 : 0 ≤ t ∧ t ≤ 1099511627776) : 0 = clE P A S t := by
  unfold clE; rw [@if_neg _ (Classical.propDecidable _) (fun hh => hh h), if_neg (fun hh => hh h2)]
theorem clS_err {P A : Int} {S : List Spd} {t E : Int} (h : E = clE P A S t) (hE : E ≠ 0) : E = clE P A S t ∧ S = clS P A S t := ⟨h, by unfold clS; rw [if_neg (by rw [← h]; exact hE)]⟩
theorem clS_ok {P A : Int} {S : List Spd} {t : Int} (h : 0 = clE P A S t) : 0 = clE P A S t ∧ S.filter (keepC P t) = clS P A S t := ⟨h, by unfold clS; rw [if_pos h.symm]⟩

theorem enter_clean (args : Array Value) (w : World) : (callFunc 53 args).run Try.prog w = .ok (.enter 53 args) w :=
  MuLone.run_callFunc_enter Try.func53 (by kernel_rfl) rfl args w
set_option maxHeartbeats 400000 in
theorem cleanT_any (x y : Nat) (P A : Int) (v : Value) (t c time : Int) (w : World) (hP : 1 ≤ P ∧ P ≤ 1099511627776) (hx : BudCell w x P A v) (hy : IntCell w y time) (h1 : 0 ≤ t ∧ t ≤ 1099511627776) (h2 : 0 ≤ time ∧ time ≤ 2199023255552) :
    Calls Try.prog 53 #[.agg #[.int .i64 t, .int .i64 c], .pointer (some ⟨x, 0, none⟩), .pointer (some ⟨y, 0, none⟩)] w (RetB (.bool (decide (t / P < time / P))) w) := by
  obtain ⟨p1, p2⟩ := hP
  obtain ⟨t1, t2⟩ := h1
  obtain ⟨m1, m2⟩ := h2
  have q1 : t.tdiv P = t / P := Int.tdiv_eq_ediv_of_nonneg t1
  have q2 : time.tdiv P = time / P := Int.tdiv_eq_ediv_of_nonneg m1
  have z1 : ¬ P = 0 := by omega
  have z2 : (P == 0) = false := by simp; omega
  have b1 := Int.ediv_nonneg t1 (show 0 ≤ P by omega)
  have b2 := Int.ediv_le_self P t1
  have b3 := Int.ediv_nonneg m1 (show 0 ≤ P by omega)
  have b4 := Int.ediv_le_self P m1
  have v1 : IntKind.i64.wrap (t / P) = t / P := IntWalk.i64_in _ (by omega)
  have v2 : IntKind.i64.wrap (time / P) = time / P := IntWalk.i64_in _ (by omega)
  have HX := Lib.hid hx
  have HY := Lib.hid hy
  clear hx hy
  go_enter Try.func53, Try.ntmps53
  go_wp2_with fail
  refine gen_world fun w1 hw1 => ?_
  have hb : Below w.heap.size w w1 := by rw [hw1]; exact below_alloc _ _
  obtain ⟨e0, e1⟩ : w1.cell? ⟨w.heap.size, 0, none⟩ = some (.int .i64 t) ∧ w1.cell? ⟨w.heap.size, 1, none⟩ = some (.int .i64 c) := by rw [hw1]; exact pair_cells w t c
  have ex := (HX.out.below hb).c0
  have ey := (HY.out.below hb).c0
  clear hw1
  go_quiet (fail)
  go_wp2
  go_ret
  exact RetB.bool rfl (below_drewN hb _)

set_option maxRecDepth 100000 in
set_option maxHeartbeats 1000000 in
theorem deleteFunc_nil (n : Nat) (u1 u2 : Value) (base g : Nat) (w : World) (hn : ∀ args w, (callFunc n args).run Try.prog w = .ok (.enter n args) w) :
    Calls Try.prog 52 #[.slice none 0 0, .func (.func n) #[] #[u1, u2]] w (DelP w base g []) := by
  go_enter Try.func52, Try.ntmps52
  go_wp2_with fail
  refine (indexFunc_any n u1 u2 (fun _ => true) none [] 0 _ (SpAt.nil _ _) (by simp) hn (fun w' hb k hk => absurd hk (by simp))).mono ?_
  rintro e w1 ⟨i, rfl, hi, hb⟩
  rcases hi with ⟨rfl, hall⟩ | ⟨k, rfl, hk, -, -⟩
  · clear hall
    go_wp2_with fail
    go_ret
    exact ⟨_, rfl, SpOwn.nil _ _, grown_of_below hb⟩
  · exact absurd hk (by simp)

/-- The budget in its box, the time in its cell, the result's cell, the call's own spends. -/
structure Cl (w wr : World) (P A t : Int) (v : Value) (S : List Spd) : Prop where
  box : BudCell wr w.heap.size P A v
  tm : IntCell wr (w.heap.size + 1) t
  res : BudCell wr (w.heap.size + 2) 0 0 (.slice none 0 0)
  own : SpOwn wr (w.heap.size + 3) v S
  below : Below w.heap.size w wr
  size : w.heap.size + 3 ≤ wr.heap.size
theorem Cl.later {w wr w' : World} {P A t : Int} {v : Value} {S : List Spd} (h : Cl w wr P A t v S) (hb : Below wr.heap.size wr w') : Cl w w' P A t v S :=
  ⟨h.box.below hb, h.tm.below hb, h.res.below hb, h.own.below hb, h.below.trans (hb.mono (Nat.le_trans (by omega) h.size)), Nat.le_trans h.size hb.size⟩
theorem Cl.done {w wr : World} {P A t : Int} {v : Value} {S : List Spd} (h : Cl w wr P A t v S) :
    BudCell (((wr.setCell ⟨w.heap.size + 2, 0, none⟩ (.int .i64 P)).setCell ⟨w.heap.size + 2, 1, none⟩ (.int .i64 A)).setCell ⟨w.heap.size + 2, 2, none⟩ v) (w.heap.size + 2) P A v ∧
    SpOwn (((wr.setCell ⟨w.heap.size + 2, 0, none⟩ (.int .i64 P)).setCell ⟨w.heap.size + 2, 1, none⟩ (.int .i64 A)).setCell ⟨w.heap.size + 2, 2, none⟩ v) w.heap.size v S ∧
    Below w.heap.size w (((wr.setCell ⟨w.heap.size + 2, 0, none⟩ (.int .i64 P)).setCell ⟨w.heap.size + 2, 1, none⟩ (.int .i64 A)).setCell ⟨w.heap.size + 2, 2, none⟩ v) :=
  ⟨((h.res.set0 P).set1 A).set2 v, (((h.own.set_ _ _ (by simp)).set_ _ _ (by simp)).set_ _ _ (by simp)).mono (by omega),
    below_set (below_set (below_set h.below _ _ (by simp)) _ _ (by simp)) _ _ (by simp)⟩
theorem size_alloc3 (w : World) (a b c : Obj) : (((w.alloc a).alloc b).alloc c).heap.size = w.heap.size + 3 := by simp
theorem IntCell.other {w : World} {x : Nat} {n : Int} (h : IntCell w x n) (p : Addr) (u : Value) (hp : x ≠ p.block) : IntCell (w.setCell p u) x n :=
  (Below.heap_setCell w p u x hp).trans h
theorem Cl.start {w w1 : World} {P A t : Int} {v v' : Value} {S : List Spd} (hb : Below (((w.alloc (.cells #[.int .i64 P, .int .i64 A, v] 24)).alloc (.cells #[.int .i64 t] 3)).alloc (.cells #[.int .i64 0, .int .i64 0, .slice none 0 0] 24)).heap.size (((w.alloc (.cells #[.int .i64 P, .int .i64 A, v] 24)).alloc (.cells #[.int .i64 t] 3)).alloc (.cells #[.int .i64 0, .int .i64 0, .slice none 0 0] 24)) w1)
    (hown : SpOwn w1 (((w.alloc (.cells #[.int .i64 P, .int .i64 A, v] 24)).alloc (.cells #[.int .i64 t] 3)).alloc (.cells #[.int .i64 0, .int .i64 0, .slice none 0 0] 24)).heap.size v' S) :
    BudCell w1 w.heap.size P A v ∧ Cl w (w1.setCell ⟨w.heap.size, 2, none⟩ v') P A t v' S := by
  have hs := hb.size
  simp only [size_alloc3] at hs hown
  have h1 : BudCell w1 w.heap.size P A v := (((BudCell.new _ _ _ rfl).alloc _).alloc _).below hb
  have h4 : IntCell w1 (w.heap.size + 1) t := ((IntCell.new _ (by simp)).alloc _).below hb
  have h2 : BudCell w1 (w.heap.size + 2) 0 0 (.slice none 0 0) := (BudCell.new _ _ _ (by simp)).below hb
  have h3 : Below w.heap.size w w1 := below_of_alloc (below_of_alloc (below_of_alloc (hb.mono (by simp; omega)) (by simp; omega)) (by simp)) (Nat.le_refl _)
  exact ⟨h1, h1.set2 _, h4.other _ _ (by simp), h2.other _ _ (by simp), hown.set_ _ _ (by simp), below_set h3 _ _ (by simp), by simpa [World.setCell] using hs⟩
theorem Cl.deleted {w wr w' : World} {P A t : Int} {v v' : Value} {S S' : List Spd} {g : Nat} (h : Cl w wr P A t v S) (hgb : w.heap.size + 3 ≤ g) (hg : wr.grownBy w' (some g)) (hown : SpOwn w' (w.heap.size + 3) v' S') :
    (BudCell w' w.heap.size P A v ∧ IntCell w' (w.heap.size + 1) t ∧ BudCell w' (w.heap.size + 2) 0 0 (.slice none 0 0)) ∧ Cl w (w'.setCell ⟨w.heap.size, 2, none⟩ v') P A t v' S' := by
  have hsz := h.size
  have hk : ∀ k, k < w.heap.size + 3 → w'.heap[k]? = wr.heap[k]? := fun k hk => hg.block k (by omega) (fun e => by injection e with e; omega)
  have h1 : BudCell w' w.heap.size P A v := (hk _ (by omega)).trans h.box
  have h4 : IntCell w' (w.heap.size + 1) t := (hk _ (by omega)).trans h.tm
  have h2 : BudCell w' (w.heap.size + 2) 0 0 (.slice none 0 0) := (hk _ (by omega)).trans h.res
  have h3 : Below w.heap.size w w' := h.below.grown hg (by omega) (fun k e => by injection e with e; omega)
  have hs := hg.size
  exact ⟨⟨h1, h4, h2⟩, h1.set2 _, h4.other _ _ (by simp), h2.other _ _ (by simp), hown.set_ _ _ (by simp), below_set h3 _ _ (by simp), by simp [World.setCell]; omega⟩

set_option maxRecDepth 100000 in
set_option maxHeartbeats 4000000 in
theorem clean_any (P A : Int) (B : Option Addr) (S : List Spd) (c : Nat) (t : Int) (w : World) (hS : SpAt w B S) (hA : ∀ a, B = some a → a.spot = none ∨ S.length = 0) (hN : B = none → S.length = 0 ∧ c = 0) (hl : S.length ≤ 100000) :
    Calls Try.prog 22 #[.agg #[.int .i64 P, .int .i64 A, .slice B S.length c], .int .i64 t] w (SpendP w P A (clS P A S t) (clE P A S t)) := by
  have HS := Lib.hid hS
  clear hS
  have hmf' := hmf
  go_enter Try.func22, Try.ntmps22
  go_wp2_with fail
  refine (clone_any B S c _ (((HS.out.alloc _).alloc _).alloc _) hA hN hl).mono ?_
  rintro e w1 ⟨v, rfl, hown, hb⟩
  obtain ⟨C, c', rfl, -, -, -⟩ := hown.at_
  obtain ⟨hX, hSt⟩ := Cl.start hb hown
  have x2 := hX.c2
  have f2 := hX.frozen 2
  have x0 := hX.c0
  have x1 := hX.c1
  clear hX hb hown hA hN HS
  go_wp2_with fail
  clear x0 x1 x2 f2
  obtain ⟨C', c'', ec, hC, hCN, hCb⟩ := hSt.own.at_
  injection ec with ec1 ec2 ec3
  subst ec1; subst ec3
  refine ret_below (check_any P A C S c' _ hC hl) fun w3 hb3 => ?_
  have hSt3 := hSt.later hb3
  clear hSt hb3 hC
  have x0 := hSt3.box.c0
  have x1 := hSt3.box.c1
  have x2 := hSt3.box.c2
  have t0 := hSt3.tm.c0
  have y0 := hSt3.res.c0
  have y1 := hSt3.res.c1
  have y2 := hSt3.res.c2
  have f0 := hSt3.res.frozen 0
  have f1 := hSt3.res.frozen 1
  have f2 := hSt3.res.frozen 2
  have hs3 := hSt3.size
  have HST := Lib.hid hSt3
  have HCN := Lib.hid hCN
  have HCB := Lib.hid hCb
  clear hSt3 hCN hCb
  by_cases hok : BudOK P A S
  case neg =>
    have HV := Lib.hid (clS_err (clE_bad (t := t) hok) (by omega))
    rw [← budE_bad hok]
    clear hok
    go_wp2_with fail
    obtain ⟨d1, d2⟩ := HST.out.done
    exact bodyPost_ret (results_bud2 rfl _ _ (w.heap.size + 2) rfl d1) rfl (SpendP.mk HV.out d2)
  case pos =>
  have HOK := Lib.hid hok
  rw [budE_ok hok]
  clear hok
  by_cases g0 : 0 ≤ t ∧ t ≤ 1099511627776
  case neg =>
    have HV := Lib.hid (clS_err (clE_time HOK.out g0) (by omega))
    have HT := Lib.hid g0
    clear g0
    go_wp2_with fail
    refine ret_pure (in_no t 0 1099511627776 HT.out _) ?_
    go_wp2_with fail
    obtain ⟨d1, d2⟩ := HST.out.done
    exact bodyPost_ret (results_bud2 rfl _ _ (w.heap.size + 2) rfl d1) rfl (SpendP.mk HV.out d2)
  case pos =>
  have HT := Lib.hid g0
  clear g0
  have HV := Lib.hid (clS_ok (clE_ok HOK.out HT.out))
  have HP := Lib.hid (show 1 ≤ P ∧ P ≤ 1099511627776 from ⟨HOK.out.1.1, HOK.out.1.2.1⟩)
  go_wp2_with fail
  refine ret_pure (in_yes t 0 1099511627776 HT.out _) ?_
  go_wp2_with fail
  obtain ⟨g, hgb, hgo⟩ : ∃ g, w.heap.size + 3 ≤ g ∧ Calls Try.prog 52 #[.slice C S.length c', .func (.func 53) #[] #[.pointer (some ⟨w.heap.size, 0, none⟩), .pointer (some ⟨w.heap.size + 1, 0, none⟩)]] w3 (DelP w3 (w.heap.size + 3) g (S.filter (keepC P t))) := by
    rcases C with _ | ⟨g, off, spot⟩
    · obtain rfl := HCN.out rfl
      have hS0 : S = [] := by
        rcases HST.out.own.2 with ⟨_, h0⟩ | ⟨g', cap, cur, hv, _⟩
        · exact List.eq_nil_of_length_eq_zero h0
        · cases hv
      subst hS0
      exact ⟨w.heap.size + 3, Nat.le_refl _, deleteFunc_nil _ _ _ _ _ _ enter_clean⟩
    · have hsp : off = 0 ∧ spot = none := by
        rcases HST.out.own.2 with ⟨h0, _⟩ | ⟨g', cap, cur, hv, _⟩
        · cases h0
        · injection hv with h1
          injection h1 with h1
          injection h1 with h1 h2 h3
          exact ⟨h2, h3⟩
      obtain ⟨rfl, rfl⟩ := hsp
      have hg3 := (HCB.out g 0 rfl).1
      refine ⟨g, hg3, ?_⟩
      rw [← gone_keep HP.out.1]
      refine deleteFunc_any 53 _ _ (goneT P t) (w.heap.size + 3) g c' S w3 HST.out.own hl enter_clean (fun w' hgr k hk => ?_)
      have hk' : ∀ k, k < w.heap.size + 3 → w'.heap[k]? = w3.heap[k]? := fun k hk => hgr.block k (by omega) (fun e => by injection e with e; omega)
      exact cleanT_any w.heap.size (w.heap.size + 1) P A (.slice (some ⟨g, 0, none⟩) S.length c') (tS S k) (cS S k) t w' HP.out ((hk' _ (by omega)).trans HST.out.box) ((hk' _ (by omega)).trans HST.out.tm) (RowOK.times HOK.out.2.1 k hk) ⟨HT.out.1, by have := HT.out.2; omega⟩
  refine hgo.mono ?_
  rintro e w6 ⟨v6, rfl, hown6, hg6⟩
  obtain ⟨⟨hX6, -, hR6⟩, hSt6⟩ := HST.out.deleted hgb hg6 hown6
  obtain ⟨C6, c6, e6, -, -, -⟩ := hown6.at_
  obtain ⟨m, hm⟩ : ∃ m, m = (S.filter (keepC P t)).length := ⟨_, rfl⟩
  rw [← hm] at e6
  subst e6
  clear x0 x1 x2 t0 y0 y1 y2 f0 f1 f2 hs3 HST hgo hg6 hown6 hm
  have z0 := hX6.c0
  have z1 := hX6.c1
  have z2 := hX6.c2
  have z3 := hX6.frozen 2
  have y0 := hR6.c0
  have y1 := hR6.c1
  have y2 := hR6.c2
  have f0 := hR6.frozen 0
  have f1 := hR6.frozen 1
  have f2 := hR6.frozen 2
  have HST6 := Lib.hid hSt6
  clear hX6 hR6 hSt6
  go_wp2_with fail
  obtain ⟨d1, d2⟩ := HST6.out.done
  exact bodyPost_ret (results_bud2 rfl _ _ (w.heap.size + 2) rfl d1) rfl (SpendP.mk HV.out d2)
end Go.Proofs.Ytmnkgfimdlhhiaa
