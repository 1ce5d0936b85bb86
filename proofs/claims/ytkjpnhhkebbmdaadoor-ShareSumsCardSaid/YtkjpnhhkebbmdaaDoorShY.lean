/-
  Shares: the sum of two, the product with an element.
-/
import Derived.Test.YtkjpnhhkebbmdaaDoorShX
namespace Go.Proofs.YtkjpnhhkebbmdaaDoor
open Go.RowKit

/-- A new share. -/
def NewShr (x : Int) (L : List Nat) (w : World) (e : Ending) (w' : World) : Prop :=
  ∃ A c, e = .returned (shV x (.slice A L.length c)) ∧ NatsAt w' A L ∧ SlOK A c L ∧ (∀ b off, A = some ⟨b, off, none⟩ → w.heap.size ≤ b ∧ b < w'.heap.size) ∧ Below w.heap.size w w'
def NewShrE (x : Int) (L : List Nat) (er : Int) (w : World) (e : Ending) (w' : World) : Prop :=
  ∃ A c, e = .returned (.tuple #[shV x (.slice A L.length c), .int .i64 er]) ∧ NatsAt w' A L ∧ SlOK A c L ∧ (∀ b off, A = some ⟨b, off, none⟩ → w.heap.size ≤ b ∧ b < w'.heap.size) ∧ Below w.heap.size w w'
theorem results_shr {fn : Func} {t : Tmp} (h : fn.results = #[.cell t 47]) (tmps : Array Value) (w : World) (g : Nat) (hp : tmps.getD t undef = .pointer (some ⟨g, 0, none⟩)) {x : Int} {v : Value} (hX : ShCell w g x v) :
    (results fn tmps).run Tryd.prog w = .ok (shV x v) w :=
  results_cell_row h tmps w g 47 _ (0, 0) _ hp hX Tryd.underlying47 rfl (by kernel_rfl)
theorem results_shr2 {fn : Func} {t u : Tmp} (h : fn.results = #[.cell t 47, .tmp u]) (tmps : Array Value) (w : World) (g : Nat) (hp : tmps.getD t undef = .pointer (some ⟨g, 0, none⟩)) {x : Int} {v : Value} (hX : ShCell w g x v) :
    (results fn tmps).run Tryd.prog w = .ok (.tuple #[shV x v, tmps.getD u undef]) w := by
  have hp' : tmps[t]?.getD undef = .pointer (some ⟨g, 0, none⟩) := by simpa using hp
  have hr := run_loadVar_row (P := Tryd.prog) w g 47 47 _ (0, 0) _ hX Tryd.underlying47 rfl (by kernel_rfl)
  simp [results, h, hp', asAddr, hr]
theorem linear_list (p : Nat) (A B : Option Addr) (L M : List Nat) (ca cb c : Nat) (w : World) (hp : 1 ≤ p) (hp2 : p ≤ 2147483648) (hA : NatsAt w A L) (hB : NatsAt w B M)
    (hL : ∀ x ∈ L, x < p) (hM : ∀ x ∈ M, x < p) (hc : c < p) (hl : L.length ≤ 1073741824) (hm : M.length ≤ 1073741824) :
    Calls Tryd.prog 60 #[.int .i64 p, .slice A L.length ca, .slice B M.length cb, .int .i64 c] w (NewList (linN p L M c) w) :=
  (linear_any p A B L M ca cb c w hp hp2 hA hB hL hM hc hl hm).mono fun _ _ h => h.list (by rw [linN_len]; unfold maxLen; omega)
theorem ShCell.lt {w : World} {g : Nat} {x : Int} {v : Value} (H : ShCell w g x v) : g < w.heap.size := blk_lt H
theorem keep_set2 {w : World} {g a b : Nat} {u v : Value} {q : Addr} {x : Value} (hq : q.block ≠ g) (h : w.cell? q = some x) : ((w.setCell ⟨g, a, none⟩ u).setCell ⟨g, b, none⟩ v).cell? q = some x :=
  ((World.cell?_setCell_other _ _ _ _ (fun e => hq (by subst e; rfl))).trans (World.cell?_setCell_other _ _ _ _ (fun e => hq (by subst e; rfl)))).trans h
theorem size_set2 {w : World} {a b : Addr} {u v : Value} : ((w.setCell a u).setCell b v).heap.size = w.heap.size := by simp [World.setCell]
theorem shcell_fill {w : World} {g : Nat} {x : Int} {v : Value} (H : ShCell w g x v) (y : Int) (u : Value) : ShCell ((w.setCell ⟨g, 0, none⟩ (.int .i64 y)).setCell ⟨g, 1, none⟩ u) g y u := (H.set0 y).set1 u
theorem nats_set2 {w : World} {g a b : Nat} {u v : Value} {A : Option Addr} {L : List Nat} (h : NatsAt w A L) (hA : ∀ b off, A = some ⟨b, off, none⟩ → b ≠ g) : NatsAt ((w.setCell ⟨g, a, none⟩ u).setCell ⟨g, b, none⟩ v) A L := fun k hk => by
  obtain ⟨b1, off, e, hlt, hc⟩ := h k hk
  exact ⟨b1, off, e, by rw [size_set2]; exact hlt, keep_set2 (hA b1 off e) hc⟩
theorem below_set2 {w w' : World} {B g a b : Nat} (h : Below B w w') (hg : B ≤ g) (u v : Value) : Below B w ((w'.setCell ⟨g, a, none⟩ u).setCell ⟨g, b, none⟩ v) :=
  ⟨h.os, h.tape, h.output, by rw [size_set2]; exact h.size, fun k hk => ((Below.heap_setCell _ _ _ k (by dsimp only; omega)).trans (Below.heap_setCell _ _ _ k (by dsimp only; omega))).trans (h.block k hk)⟩
/-- The plan, both shares, the result. -/
structure AddW (w w' : World) (p n h x : Int) (v : Value) (y : Int) (u : Value) : Prop where
  pl : PlanCell w' w.heap.size p n h
  a : ShCell w' (w.heap.size + 1) x v
  b : ShCell w' (w.heap.size + 1 + 1) y u
  r : ShCell w' (w.heap.size + 1 + 1 + 1) 0 (.slice none 0 0)
  be : Below w.heap.size w w'
theorem AddW.below {w w' w2 : World} {p n h x : Int} {v : Value} {y : Int} {u : Value} (H : AddW w w' p n h x v y u) (hb : Below w'.heap.size w' w2) : AddW w w2 p n h x v y u :=
  ⟨H.pl.below hb, H.a.below hb, H.b.below hb, H.r.below hb, below_trans H.be hb⟩
theorem AddW.start (w : World) (p n h x : Int) (v : Value) (y : Int) (u : Value) : AddW w ((((w.alloc (.cells #[.int .i64 p, .int .i64 n, .int .i64 h] 24)).alloc (.cells #[.int .i64 x, v] 47)).alloc (.cells #[.int .i64 y, u] 47)).alloc (.cells #[.int .i64 0, .slice none 0 0] 47)) p n h x v y u :=
  ⟨(((PlanCell.new _ _ _ rfl).alloc _).alloc _).alloc _, ((ShCell.new _ _ (by simp)).alloc _).alloc _, (ShCell.new _ _ (by simp)).alloc _, ShCell.new _ _ (by simp),
    below_trans (below_trans (below_trans (below_alloc _ _) (below_alloc _ _)) (below_alloc _ _)) (below_alloc _ _)⟩
theorem AddW.bases {w : World} {a b c d : Obj} (hB : Bases w) : Bases ((((w.alloc a).alloc b).alloc c).alloc d) :=
  hB.below (below_trans (below_trans (below_trans (below_alloc w a) (below_alloc _ b)) (below_alloc _ c)) (below_alloc _ d)) hB.1
def AdP (p n h x y : Int) (L M : List Int) : Prop := plB p n h = true ∧ stB p h x L = true ∧ stB p h y M = true ∧ x = y ∧ L.length = M.length
instance (p n h x y : Int) (L M : List Int) : Decidable (AdP p n h x y L M) := by unfold AdP; exact inferInstance
def adE (p n h x y : Int) (L M : List Int) : Int := if AdP p n h x y L M then 0 else 1
def adX (p n h x y : Int) (L M : List Int) : Int := if AdP p n h x y L M then x else 0
def adL (p n h x y : Int) (L M : List Int) : List Nat := if AdP p n h x y L M then linN p.toNat (L.map Int.toNat) (M.map Int.toNat) 1 else []
theorem adE_ok {p n h x y : Int} {L M : List Int} (H : AdP p n h x y L M) : adE p n h x y L M = 0 := if_pos H
theorem adX_ok {p n h x y : Int} {L M : List Int} (H : AdP p n h x y L M) : adX p n h x y L M = x := if_pos H
theorem adL_ok {p : Nat} {n h x y : Int} {L M : List Int} (H : AdP p n h x y L M) : adL p n h x y L M = linN p (L.map Int.toNat) (M.map Int.toNat) 1 := if_pos H
theorem ad_no {p n h x y : Int} {L M : List Int} (H : ¬ AdP p n h x y L M) : adE p n h x y L M = 1 ∧ adX p n h x y L M = 0 ∧ adL p n h x y L M = [] := ⟨if_neg H, if_neg H, if_neg H⟩
theorem NewShrE.no {w w' : World} (hb : Below w.heap.size w w') : NewShrE 0 [] 1 w (.returned (.tuple #[shV 0 (.slice none 0 0), .int .i64 1])) w' :=
  ⟨none, 0, rfl, NatsAt.nil _ _, SlOK.none0, fun _ _ e => (by cases e), hb⟩
theorem plB_nat {p n h : Int} (H : plB p n h = true) (hv : primeV p = validI p) : ∃ q : Nat, p = (q : Int) ∧ 1 ≤ q ∧ q ≤ 2147483648 := by
  obtain ⟨q, h1, h2, h3⟩ := plan_prime (of_decide_eq_true H) hv
  have := h2.1
  exact ⟨q, h1, by omega, by omega⟩
theorem plB_two {p : Nat} {n h : Int} (H : plB p n h = true) : 1 < p := by
  have : PlanP p n h := of_decide_eq_true H
  obtain ⟨h1, h2, h3, h4, -⟩ := this
  omega
theorem plB_pv {p n h : Int} (H : plB p n h = true) (hv : primeV p = validI p) : primeV p = true := by
  have : PlanP p n h := of_decide_eq_true H
  rw [hv]; exact this.2.2.2.2

set_option maxRecDepth 100000 in
set_option maxHeartbeats 2000000 in
theorem scale_any (p : Nat) (n h x : Int) (B : Option Addr) (L : List Nat) (cb c : Nat) (w : World) (hp1 : 1 ≤ p) (hp2 : p ≤ 2147483648) (hI : NatsAt w B L) (hL : ∀ y ∈ L, y < p) (hc : c < p) (hl : L.length ≤ 1048576) :
    Calls Tryd.prog 37 #[planV p n h, shV x (.slice B L.length cb), .int .i64 c] w (NewShr x (linN p [] L c) w) := by
  have HI := Lib.hid hI
  have HL := Lib.hid hL
  clear hI hL
  go_enter Tryd.func37, Tryd.ntmps37
  go_wp2_with fail
  refine gen_world fun w1 hw1 => ?_
  have hP : PlanCell w1 w.heap.size p n h := by rw [hw1]; exact ((PlanCell.new _ _ _ rfl).alloc _).alloc _
  have hS : ShCell w1 (w.heap.size + 1) x (.slice B L.length cb) := by rw [hw1]; exact (ShCell.new _ _ (by simp)).alloc _
  have hR : ShCell w1 (w.heap.size + 1 + 1) 0 (.slice none 0 0) := by rw [hw1]; exact ShCell.new _ _ (by simp)
  have hb1 : Below w.heap.size w w1 := by rw [hw1]; exact below_trans (below_trans (below_alloc _ _) (below_alloc _ _)) (below_alloc _ _)
  have hlt := hR.lt
  have p0 := hP.c0
  have s0 := hS.c0
  have s1 := hS.c1
  have HP := Lib.hid hP
  have HS := Lib.hid hS
  have HR := Lib.hid hR
  have HI1 := Lib.hid (HI.out.below hb1)
  have HB1 := Lib.hid hb1
  clear hP hS hR hb1 hw1
  go_region_held3 (fun w' => w'.cell? ⟨w.heap.size, 0, none⟩ = some (.int .i64 (p : Int)) ∧ w'.cell? ⟨w.heap.size + 1, 0, none⟩ = some (.int .i64 x) ∧ w'.cell? ⟨w.heap.size + 1, 1, none⟩ = some (.slice B L.length cb)) (first | (go_keep; done) | (refine ⟨?_, ?_, ?_⟩ <;> (first | (go_keep; done) | (refine keep_set2 (by dsimp only; omega) ?_; assumption) | (refine keep_set2 (by dsimp only; omega) ?_; go_keep))))
    ((go_at_call 60; refine (linear_list p none B [] L 0 cb c _ hp1 hp2 (NatsAt.nil _ _) (by exact HI1.out.below (below_drewT _)) (by simp) HL.out hc (by simp) (by omega)).mono ?_; intro e w5 he; obtain ⟨A6, c6, rfl, hN6, hS6, hO6, hb6⟩ := he.open_; have hb5 : Below w1.heap.size w1 w5 := (below_undrew1 hb6); have HR5 := Lib.hid (HR.out.below hb5); have f0 := HR5.out.frozen 0; have f1 := HR5.out.frozen 1; have r0 := HR5.out.c0; have r1 := HR5.out.c1; have t0 := (HP.out.below hb5).c0; have t1 := (HS.out.below hb5).c0; have t2 := (HS.out.below hb5).c1))
  go_wp2_with fail
  refine bodyPost_ret (results_shr rfl _ _ (w.heap.size + 1 + 1) rfl (shcell_fill HR5.out x _)) rfl ⟨A6, c6, rfl, nats_set2 hN6 (fun b off e => by have := hO6 b off e; rw [World.size_drew] at this; omega), hS6, fun b off e => ?_, ?_⟩
  · have := hO6 b off e
    rw [World.size_drew] at this
    rw [size_set2]
    exact ⟨Nat.le_trans HB1.out.size this.1, this.2⟩
  · exact below_set2 (below_trans HB1.out hb5) (by omega) _ _

set_option maxRecDepth 100000 in
set_option maxHeartbeats 2000000 in
theorem refScale_any (p : Nat) (n h x : Int) (B : Option Addr) (L : List Nat) (cb c : Nat) (w : World) (hp1 : 1 ≤ p) (hp2 : p ≤ 2147483648) (hI : NatsAt w B L) (hL : ∀ y ∈ L, y < p) (hc : c < p) (hl : L.length ≤ 1048576) :
    Calls Tryd.prog 38 #[planV p n h, shV x (.slice B L.length cb), .int .i64 c] w (NewShr x (linN p [] L c) w) := by
  have HI := Lib.hid hI
  have HL := Lib.hid hL
  clear hI hL
  go_enter Tryd.func38, Tryd.ntmps38
  go_wp2_with fail
  refine gen_world fun w1 hw1 => ?_
  have hP : PlanCell w1 w.heap.size p n h := by rw [hw1]; exact ((PlanCell.new _ _ _ rfl).alloc _).alloc _
  have hS : ShCell w1 (w.heap.size + 1) x (.slice B L.length cb) := by rw [hw1]; exact (ShCell.new _ _ (by simp)).alloc _
  have hR : ShCell w1 (w.heap.size + 1 + 1) 0 (.slice none 0 0) := by rw [hw1]; exact ShCell.new _ _ (by simp)
  have hb1 : Below w.heap.size w w1 := by rw [hw1]; exact below_trans (below_trans (below_alloc _ _) (below_alloc _ _)) (below_alloc _ _)
  have hlt := hR.lt
  have p0 := hP.c0
  have s0 := hS.c0
  have s1 := hS.c1
  have HP := Lib.hid hP
  have HS := Lib.hid hS
  have HR := Lib.hid hR
  have HI1 := Lib.hid (HI.out.below hb1)
  have HB1 := Lib.hid hb1
  clear hP hS hR hb1 hw1
  go_region_held3 (fun w' => w'.cell? ⟨w.heap.size, 0, none⟩ = some (.int .i64 (p : Int)) ∧ w'.cell? ⟨w.heap.size + 1, 0, none⟩ = some (.int .i64 x) ∧ w'.cell? ⟨w.heap.size + 1, 1, none⟩ = some (.slice B L.length cb)) (first | (go_keep; done) | (refine ⟨?_, ?_, ?_⟩ <;> (first | (go_keep; done) | (refine keep_set2 (by dsimp only; omega) ?_; assumption) | (refine keep_set2 (by dsimp only; omega) ?_; go_keep))))
    ((go_at_call 39; refine (refLinear_any p none B [] L 0 cb c _ hp1 hp2 (NatsAt.nil _ _) (by exact HI1.out.below (below_drewT _)) (by simp) HL.out hc (by simp) (by omega)).mono ?_; intro e w5 he; obtain ⟨A6, c6, rfl, hN6, hS6, hO6, hb6⟩ := he.open_; have hb5 : Below w1.heap.size w1 w5 := (below_undrew1 hb6); have HR5 := Lib.hid (HR.out.below hb5); have f0 := HR5.out.frozen 0; have f1 := HR5.out.frozen 1; have r0 := HR5.out.c0; have r1 := HR5.out.c1; have t0 := (HP.out.below hb5).c0; have t1 := (HS.out.below hb5).c0; have t2 := (HS.out.below hb5).c1))
  go_wp2_with fail
  refine bodyPost_ret (results_shr rfl _ _ (w.heap.size + 1 + 1) rfl (shcell_fill HR5.out x _)) rfl ⟨A6, c6, rfl, nats_set2 hN6 (fun b off e => by have := hO6 b off e; rw [World.size_drew] at this; omega), hS6, fun b off e => ?_, ?_⟩
  · have := hO6 b off e
    rw [World.size_drew] at this
    rw [size_set2]
    exact ⟨Nat.le_trans HB1.out.size this.1, this.2⟩
  · exact below_set2 (below_trans HB1.out hb5) (by omega) _ _

set_option maxRecDepth 100000 in
set_option maxHeartbeats 4000000 in
theorem addS_ok (p : Nat) (n h x : Int) (B B' : Option Addr) (L M : List Nat) (cb cb' k : Nat) (w : World) (hp1 : 1 ≤ p) (hp2 : p ≤ 2147483648) (_ : primeV p = validI p) (hB : Bases w) (hpl : plB p n h = true) (hsa : stB p h x (ofN L) = true) (hsb : stB p h x (ofN M) = true) (hkL : k = L.length) (hkM : k = M.length) (hLp : ∀ y ∈ L, y < p) (hMp : ∀ y ∈ M, y < p) (hI : IntsAt w B (ofN L)) (hJ : IntsAt w B' (ofN M)) (hl : k ≤ 1048576) :
    Calls Tryd.prog 35 #[planV p n h, shV x (.slice B k cb), shV x (.slice B' k cb')] w (NewShrE x (linN p L M 1) 0 w) := by
  have HI := Lib.hid hI
  have HJ := Lib.hid hJ
  have HLp := Lib.hid hLp
  have HMp := Lib.hid hMp
  have HB := Lib.hid hB
  clear hB
  have HV := Lib.hid (fun (W : World) (hB : Bases W) => by have := valid_plan p n h W hB; rw [hpl] at this; exact this)
  have HSA := Lib.hid (fun (W : World) (hI : IntsAt W B (ofN L)) => by have := stands_any p n h x B (ofN L) cb W hI (by rw [len_ofN]; omega); rw [hsa, len_ofN, ← hkL] at this; exact this)
  have HSB := Lib.hid (fun (W : World) (hI : IntsAt W B' (ofN M)) => by have := stands_any p n h x B' (ofN M) cb' W hI (by rw [len_ofN]; omega); rw [hsb, len_ofN, ← hkM] at this; exact this)
  have HKL := Lib.hid hkL
  have HKM := Lib.hid hkM
  have hLl : L.length ≤ 1048576 := by omega
  have hMl : M.length ≤ 1048576 := by omega
  have h1p : 1 < p := plB_two hpl
  clear hI hJ hLp hMp hkL hkM
  have HLIN := Lib.hid (fun (W : World) (h1 : NatsAt W B L) (h2 : NatsAt W B' M) => by have := linear_list p B B' L M cb cb' 1 W hp1 hp2 h1 h2 HLp.out HMp.out h1p (by omega) (by omega); rw [← HKL.out, ← HKM.out] at this; exact this)
  go_enter Tryd.func35, Tryd.ntmps35
  go_wp2_with fail
  refine ret_below (HV.out _ (AddW.bases HB.out)) ?_
  intro w2 hb2
  have HW2 := Lib.hid ((AddW.start w _ _ _ _ _ _ _).below hb2)
  have x20 := HW2.out.pl.c0
  have x21 := HW2.out.pl.c1
  have x22 := HW2.out.pl.c2
  have x23 := HW2.out.a.c0
  have x24 := HW2.out.a.c1
  have x25 := HW2.out.b.c0
  have x26 := HW2.out.b.c1
  clear hb2
  go_wp2_with fail
  refine ret_below (HSA.out _ (HI.out.below HW2.out.be)) ?_
  intro w3 hb3
  have HW3 := Lib.hid (HW2.out.below hb3)
  have x30 := HW3.out.pl.c0
  have x31 := HW3.out.pl.c1
  have x32 := HW3.out.pl.c2
  have x33 := HW3.out.a.c0
  have x34 := HW3.out.a.c1
  have x35 := HW3.out.b.c0
  have x36 := HW3.out.b.c1
  clear x20 x21 x22 x23 x24 x25 x26
  clear hb3
  go_wp2_with fail
  refine ret_below (HSB.out _ (HJ.out.below HW3.out.be)) ?_
  intro w4 hb4
  have HW4 := Lib.hid (HW3.out.below hb4)
  have x40 := HW4.out.pl.c0
  have x41 := HW4.out.pl.c1
  have x42 := HW4.out.pl.c2
  have x43 := HW4.out.a.c0
  have x44 := HW4.out.a.c1
  have x45 := HW4.out.b.c0
  have x46 := HW4.out.b.c1
  clear x30 x31 x32 x33 x34 x35 x36
  clear hb4
  have hlt := HW4.out.r.lt
  have f0 := HW4.out.r.frozen 0
  have f1 := HW4.out.r.frozen 1
  have r0 := HW4.out.r.c0
  have r1 := HW4.out.r.c1
  go_wp2_with fail
  go_region_held3 (fun w' => w'.cell? ⟨w.heap.size, 0, none⟩ = some (.int .i64 (p : Int)) ∧ w'.cell? ⟨w.heap.size + 1, 0, none⟩ = some (.int .i64 x) ∧ w'.cell? ⟨w.heap.size + 1, 1, none⟩ = some (.slice B k cb) ∧ w'.cell? ⟨w.heap.size + 1 + 1, 1, none⟩ = some (.slice B' k cb')) (first | (go_keep; done) | (refine ⟨?_, ?_, ?_, ?_⟩ <;> (first | (go_keep; done) | (refine keep_set2 (by dsimp only; omega) ?_; assumption) | (refine keep_set2 (by dsimp only; omega) ?_; go_keep))))
    ((go_at_call 60; refine (HLIN.out _ ((HI.out.below HW4.out.be).nats.below (below_drewT _)) ((HJ.out.below HW4.out.be).nats.below (below_drewT _))).mono ?_; intro e w5 he; obtain ⟨A6, c6, rfl, hN6, hS6, hO6, hb6⟩ := he.open_; have hb5 : Below w4.heap.size w4 w5 := (below_undrew1 hb6); have HW5 := Lib.hid (HW4.out.below hb5); have x50 := HW5.out.pl.c0; have x51 := HW5.out.pl.c1; have x52 := HW5.out.pl.c2; have x53 := HW5.out.a.c0; have x54 := HW5.out.a.c1; have x55 := HW5.out.b.c0; have x56 := HW5.out.b.c1; have g0 := HW5.out.r.frozen 0; have g1 := HW5.out.r.frozen 1; have v0 := HW5.out.r.c0; have v1 := HW5.out.r.c1; have hO6' : ∀ b off, A6 = some ⟨b, off, none⟩ → w4.heap.size ≤ b ∧ b < w5.heap.size := (fun b off e => by have := hO6 b off e; rw [World.size_drew] at this; exact this)))
  go_wp2_with fail
  refine bodyPost_ret (results_shr2 rfl _ _ (w.heap.size + 1 + 1 + 1) rfl (shcell_fill HW5.out.r x _)) rfl ⟨A6, c6, rfl, nats_set2 hN6 (fun b off e => by have := hO6' b off e; omega), hS6, fun b off e => ?_, ?_⟩
  · have := hO6' b off e
    rw [size_set2]
    exact ⟨Nat.le_trans HW4.out.be.size this.1, this.2⟩
  · exact below_set2 HW5.out.be (by omega) _ _

set_option maxRecDepth 100000 in
set_option maxHeartbeats 4000000 in
theorem addS_any (p n h x y : Int) (B B' : Option Addr) (L M : List Int) (cb cb' : Nat) (w : World) (hv : primeV p = validI p) (hB : Bases w) (hI : IntsAt w B L) (hJ : IntsAt w B' M) (hl : L.length ≤ 1048576) (hm : M.length ≤ 1048576) :
    Calls Tryd.prog 35 #[planV p n h, shV x (.slice B L.length cb), shV y (.slice B' M.length cb')] w (NewShrE (adX p n h x y L M) (adL p n h x y L M) (adE p n h x y L M) w) := by
  by_cases hok : AdP p n h x y L M
  · have hok' := hok
    obtain ⟨hpl, hsa, hsb, rfl, hlen⟩ := hok
    obtain ⟨q, rfl, hq1, hq2⟩ := plB_nat hpl hv
    have h1 := inside_nat (stB_bd hsa).2.2
    have h2 := inside_nat (stB_bd hsb).2.2
    have := addS_ok q n h x B B' (L.map Int.toNat) (M.map Int.toNat) cb cb' L.length w hq1 hq2 hv hB hpl (by rw [h1.1]; exact hsa) (by rw [h2.1]; exact hsb) (by simp) (by simpa using hlen) h1.2 h2.2 (by rw [h1.1]; exact hI) (by rw [h2.1]; exact hJ) hl
    rw [adX_ok hok', adL_ok hok', adE_ok hok', ← hlen]
    exact this
  · have HE := Lib.hid (ad_no hok)
    have HI := Lib.hid hI
    have HJ := Lib.hid hJ
    have HB := Lib.hid hB
    clear hB
    by_cases hpl : plB p n h = true
    · by_cases hsa : stB p h x L = true
      · by_cases hsb : stB p h y M = true
        · by_cases hxy : x = y
          · subst hxy
            have hlen : ¬ L.length = M.length := fun e => hok ⟨hpl, hsa, hsb, rfl, e⟩
            have HV := Lib.hid (fun (W : World) (hB : Bases W) => by have := valid_plan p n h W hB; rw [hpl] at this; exact this)
            have HSA := Lib.hid (fun (W : World) (hI : IntsAt W B L) => by have := stands_any p n h x B L cb W hI (by omega); rw [hsa] at this; exact this)
            have HSB := Lib.hid (fun (W : World) (hI : IntsAt W B' M) => by have := stands_any p n h x B' M cb' W hI (by omega); rw [hsb] at this; exact this)
            clear hI hJ
            go_enter Tryd.func35, Tryd.ntmps35
            go_wp2_with fail
            refine ret_below (HV.out _ (AddW.bases HB.out)) ?_
            intro w2 hb2
            have HW2 := Lib.hid ((AddW.start w _ _ _ _ _ _ _).below hb2)
            have x20 := HW2.out.pl.c0
            have x21 := HW2.out.pl.c1
            have x22 := HW2.out.pl.c2
            have x23 := HW2.out.a.c0
            have x24 := HW2.out.a.c1
            have x25 := HW2.out.b.c0
            have x26 := HW2.out.b.c1
            clear hb2
            go_wp2_with fail
            refine ret_below (HSA.out _ (HI.out.below HW2.out.be)) ?_
            intro w3 hb3
            have HW3 := Lib.hid (HW2.out.below hb3)
            have x30 := HW3.out.pl.c0
            have x31 := HW3.out.pl.c1
            have x32 := HW3.out.pl.c2
            have x33 := HW3.out.a.c0
            have x34 := HW3.out.a.c1
            have x35 := HW3.out.b.c0
            have x36 := HW3.out.b.c1
            clear x20 x21 x22 x23 x24 x25 x26
            clear hb3
            go_wp2_with fail
            refine ret_below (HSB.out _ (HJ.out.below HW3.out.be)) ?_
            intro w4 hb4
            have HW4 := Lib.hid (HW3.out.below hb4)
            have x40 := HW4.out.pl.c0
            have x41 := HW4.out.pl.c1
            have x42 := HW4.out.pl.c2
            have x43 := HW4.out.a.c0
            have x44 := HW4.out.a.c1
            have x45 := HW4.out.b.c0
            have x46 := HW4.out.b.c1
            clear x30 x31 x32 x33 x34 x35 x36
            clear hb4
            have hlt := HW4.out.r.lt
            have f0 := HW4.out.r.frozen 0
            have f1 := HW4.out.r.frozen 1
            have r0 := HW4.out.r.c0
            have r1 := HW4.out.r.c1
            go_wp2_with fail
            refine bodyPost_ret (results_shr2 rfl _ _ (w.heap.size + 1 + 1 + 1) rfl (shcell_fill HW4.out.r 0 _)) rfl ?_
            rw [HE.out.1, HE.out.2.1, HE.out.2.2]
            exact NewShrE.no (below_set2 HW4.out.be (by omega) _ _)
          · clear hok
            have HV := Lib.hid (fun (W : World) (hB : Bases W) => by have := valid_plan p n h W hB; rw [hpl] at this; exact this)
            have HSA := Lib.hid (fun (W : World) (hI : IntsAt W B L) => by have := stands_any p n h x B L cb W hI (by omega); rw [hsa] at this; exact this)
            have HSB := Lib.hid (fun (W : World) (hI : IntsAt W B' M) => by have := stands_any p n h y B' M cb' W hI (by omega); rw [hsb] at this; exact this)
            clear hI hJ
            go_enter Tryd.func35, Tryd.ntmps35
            go_wp2_with fail
            refine ret_below (HV.out _ (AddW.bases HB.out)) ?_
            intro w2 hb2
            have HW2 := Lib.hid ((AddW.start w _ _ _ _ _ _ _).below hb2)
            have x20 := HW2.out.pl.c0
            have x21 := HW2.out.pl.c1
            have x22 := HW2.out.pl.c2
            have x23 := HW2.out.a.c0
            have x24 := HW2.out.a.c1
            have x25 := HW2.out.b.c0
            have x26 := HW2.out.b.c1
            clear hb2
            go_wp2_with fail
            refine ret_below (HSA.out _ (HI.out.below HW2.out.be)) ?_
            intro w3 hb3
            have HW3 := Lib.hid (HW2.out.below hb3)
            have x30 := HW3.out.pl.c0
            have x31 := HW3.out.pl.c1
            have x32 := HW3.out.pl.c2
            have x33 := HW3.out.a.c0
            have x34 := HW3.out.a.c1
            have x35 := HW3.out.b.c0
            have x36 := HW3.out.b.c1
            clear x20 x21 x22 x23 x24 x25 x26
            clear hb3
            go_wp2_with fail
            refine ret_below (HSB.out _ (HJ.out.below HW3.out.be)) ?_
            intro w4 hb4
            have HW4 := Lib.hid (HW3.out.below hb4)
            have x40 := HW4.out.pl.c0
            have x41 := HW4.out.pl.c1
            have x42 := HW4.out.pl.c2
            have x43 := HW4.out.a.c0
            have x44 := HW4.out.a.c1
            have x45 := HW4.out.b.c0
            have x46 := HW4.out.b.c1
            clear x30 x31 x32 x33 x34 x35 x36
            clear hb4
            have hlt := HW4.out.r.lt
            have f0 := HW4.out.r.frozen 0
            have f1 := HW4.out.r.frozen 1
            have r0 := HW4.out.r.c0
            have r1 := HW4.out.r.c1
            go_wp2_with fail
            refine bodyPost_ret (results_shr2 rfl _ _ (w.heap.size + 1 + 1 + 1) rfl (shcell_fill HW4.out.r 0 _)) rfl ?_
            rw [HE.out.1, HE.out.2.1, HE.out.2.2]
            exact NewShrE.no (below_set2 HW4.out.be (by omega) _ _)
        · clear hok
          have hsb' : stB p h y M = false := by simpa using hsb
          have HV := Lib.hid (fun (W : World) (hB : Bases W) => by have := valid_plan p n h W hB; rw [hpl] at this; exact this)
          have HSA := Lib.hid (fun (W : World) (hI : IntsAt W B L) => by have := stands_any p n h x B L cb W hI (by omega); rw [hsa] at this; exact this)
          have HSB := Lib.hid (fun (W : World) (hI : IntsAt W B' M) => by have := stands_any p n h y B' M cb' W hI (by omega); rw [hsb'] at this; exact this)
          clear hI hJ
          go_enter Tryd.func35, Tryd.ntmps35
          go_wp2_with fail
          refine ret_below (HV.out _ (AddW.bases HB.out)) ?_
          intro w2 hb2
          have HW2 := Lib.hid ((AddW.start w _ _ _ _ _ _ _).below hb2)
          have x20 := HW2.out.pl.c0
          have x21 := HW2.out.pl.c1
          have x22 := HW2.out.pl.c2
          have x23 := HW2.out.a.c0
          have x24 := HW2.out.a.c1
          have x25 := HW2.out.b.c0
          have x26 := HW2.out.b.c1
          clear hb2
          go_wp2_with fail
          refine ret_below (HSA.out _ (HI.out.below HW2.out.be)) ?_
          intro w3 hb3
          have HW3 := Lib.hid (HW2.out.below hb3)
          have x30 := HW3.out.pl.c0
          have x31 := HW3.out.pl.c1
          have x32 := HW3.out.pl.c2
          have x33 := HW3.out.a.c0
          have x34 := HW3.out.a.c1
          have x35 := HW3.out.b.c0
          have x36 := HW3.out.b.c1
          clear x20 x21 x22 x23 x24 x25 x26
          clear hb3
          go_wp2_with fail
          refine ret_below (HSB.out _ (HJ.out.below HW3.out.be)) ?_
          intro w4 hb4
          have HW4 := Lib.hid (HW3.out.below hb4)
          have x40 := HW4.out.pl.c0
          have x41 := HW4.out.pl.c1
          have x42 := HW4.out.pl.c2
          have x43 := HW4.out.a.c0
          have x44 := HW4.out.a.c1
          have x45 := HW4.out.b.c0
          have x46 := HW4.out.b.c1
          clear x30 x31 x32 x33 x34 x35 x36
          clear hb4
          have hlt := HW4.out.r.lt
          have f0 := HW4.out.r.frozen 0
          have f1 := HW4.out.r.frozen 1
          have r0 := HW4.out.r.c0
          have r1 := HW4.out.r.c1
          go_wp2_with fail
          refine bodyPost_ret (results_shr2 rfl _ _ (w.heap.size + 1 + 1 + 1) rfl (shcell_fill HW4.out.r 0 _)) rfl ?_
          rw [HE.out.1, HE.out.2.1, HE.out.2.2]
          exact NewShrE.no (below_set2 HW4.out.be (by omega) _ _)
      · clear hok
        have hsa' : stB p h x L = false := by simpa using hsa
        have HV := Lib.hid (fun (W : World) (hB : Bases W) => by have := valid_plan p n h W hB; rw [hpl] at this; exact this)
        have HSA := Lib.hid (fun (W : World) (hI : IntsAt W B L) => by have := stands_any p n h x B L cb W hI (by omega); rw [hsa'] at this; exact this)
        clear hI hJ
        go_enter Tryd.func35, Tryd.ntmps35
        go_wp2_with fail
        refine ret_below (HV.out _ (AddW.bases HB.out)) ?_
        intro w2 hb2
        have HW2 := Lib.hid ((AddW.start w _ _ _ _ _ _ _).below hb2)
        have x20 := HW2.out.pl.c0
        have x21 := HW2.out.pl.c1
        have x22 := HW2.out.pl.c2
        have x23 := HW2.out.a.c0
        have x24 := HW2.out.a.c1
        have x25 := HW2.out.b.c0
        have x26 := HW2.out.b.c1
        clear hb2
        go_wp2_with fail
        refine ret_below (HSA.out _ (HI.out.below HW2.out.be)) ?_
        intro w3 hb3
        have HW3 := Lib.hid (HW2.out.below hb3)
        have x30 := HW3.out.pl.c0
        have x31 := HW3.out.pl.c1
        have x32 := HW3.out.pl.c2
        have x33 := HW3.out.a.c0
        have x34 := HW3.out.a.c1
        have x35 := HW3.out.b.c0
        have x36 := HW3.out.b.c1
        clear x20 x21 x22 x23 x24 x25 x26
        clear hb3
        have hlt := HW3.out.r.lt
        have f0 := HW3.out.r.frozen 0
        have f1 := HW3.out.r.frozen 1
        have r0 := HW3.out.r.c0
        have r1 := HW3.out.r.c1
        go_wp2_with fail
        refine bodyPost_ret (results_shr2 rfl _ _ (w.heap.size + 1 + 1 + 1) rfl (shcell_fill HW3.out.r 0 _)) rfl ?_
        rw [HE.out.1, HE.out.2.1, HE.out.2.2]
        exact NewShrE.no (below_set2 HW3.out.be (by omega) _ _)
    · clear hok
      have hpl' : plB p n h = false := by simpa using hpl
      have HV := Lib.hid (fun (W : World) (hB : Bases W) => by have := valid_plan p n h W hB; rw [hpl'] at this; exact this)
      clear hI hJ
      go_enter Tryd.func35, Tryd.ntmps35
      go_wp2_with fail
      refine ret_below (HV.out _ (AddW.bases HB.out)) ?_
      intro w2 hb2
      have HW2 := Lib.hid ((AddW.start w _ _ _ _ _ _ _).below hb2)
      have x20 := HW2.out.pl.c0
      have x21 := HW2.out.pl.c1
      have x22 := HW2.out.pl.c2
      have x23 := HW2.out.a.c0
      have x24 := HW2.out.a.c1
      have x25 := HW2.out.b.c0
      have x26 := HW2.out.b.c1
      clear hb2
      have hlt := HW2.out.r.lt
      have f0 := HW2.out.r.frozen 0
      have f1 := HW2.out.r.frozen 1
      have r0 := HW2.out.r.c0
      have r1 := HW2.out.r.c1
      go_wp2_with fail
      refine bodyPost_ret (results_shr2 rfl _ _ (w.heap.size + 1 + 1 + 1) rfl (shcell_fill HW2.out.r 0 _)) rfl ?_
      rw [HE.out.1, HE.out.2.1, HE.out.2.2]
      exact NewShrE.no (below_set2 HW2.out.be (by omega) _ _)

set_option maxRecDepth 100000 in
set_option maxHeartbeats 4000000 in
theorem refAddS_ok (p : Nat) (n h x : Int) (B B' : Option Addr) (L M : List Nat) (cb cb' k : Nat) (w : World) (hp1 : 1 ≤ p) (hp2 : p ≤ 2147483648) (hv : primeV p = validI p) (hpl : plB p n h = true) (hsa : stB p h x (ofN L) = true) (hsb : stB p h x (ofN M) = true) (hkL : k = L.length) (hkM : k = M.length) (hLp : ∀ y ∈ L, y < p) (hMp : ∀ y ∈ M, y < p) (hI : IntsAt w B (ofN L)) (hJ : IntsAt w B' (ofN M)) (hl : k ≤ 1048576) :
    Calls Tryd.prog 36 #[planV p n h, shV x (.slice B k cb), shV x (.slice B' k cb')] w (NewShrE x (linN p L M 1) 0 w) := by
  have HI := Lib.hid hI
  have HJ := Lib.hid hJ
  have HLp := Lib.hid hLp
  have HMp := Lib.hid hMp
  have HV := Lib.hid (fun (W : World) => by have := refValid_plan p n h W hv; rw [hpl] at this; exact this)
  have HSA := Lib.hid (fun (W : World) (hI : IntsAt W B (ofN L)) => by have := refStands_any p n h x B (ofN L) cb W (plB_pv hpl hv) hI (by rw [len_ofN]; omega); rw [hsa, len_ofN, ← hkL] at this; exact this)
  have HSB := Lib.hid (fun (W : World) (hI : IntsAt W B' (ofN M)) => by have := refStands_any p n h x B' (ofN M) cb' W (plB_pv hpl hv) hI (by rw [len_ofN]; omega); rw [hsb, len_ofN, ← hkM] at this; exact this)
  have HKL := Lib.hid hkL
  have HKM := Lib.hid hkM
  have hLl : L.length ≤ 1048576 := by omega
  have hMl : M.length ≤ 1048576 := by omega
  have h1p : 1 < p := plB_two hpl
  clear hI hJ hLp hMp hkL hkM
  have HLIN := Lib.hid (fun (W : World) (h1 : NatsAt W B L) (h2 : NatsAt W B' M) => by have := refLinear_any p B B' L M cb cb' 1 W hp1 hp2 h1 h2 HLp.out HMp.out h1p (by omega) (by omega); rw [← HKL.out, ← HKM.out] at this; exact this)
  go_enter Tryd.func36, Tryd.ntmps36
  go_wp2_with fail
  refine ret_below (HV.out _) ?_
  intro w2 hb2
  have HW2 := Lib.hid ((AddW.start w _ _ _ _ _ _ _).below hb2)
  have x20 := HW2.out.pl.c0
  have x21 := HW2.out.pl.c1
  have x22 := HW2.out.pl.c2
  have x23 := HW2.out.a.c0
  have x24 := HW2.out.a.c1
  have x25 := HW2.out.b.c0
  have x26 := HW2.out.b.c1
  clear hb2
  go_wp2_with fail
  refine ret_below (HSA.out _ (HI.out.below HW2.out.be)) ?_
  intro w3 hb3
  have HW3 := Lib.hid (HW2.out.below hb3)
  have x30 := HW3.out.pl.c0
  have x31 := HW3.out.pl.c1
  have x32 := HW3.out.pl.c2
  have x33 := HW3.out.a.c0
  have x34 := HW3.out.a.c1
  have x35 := HW3.out.b.c0
  have x36 := HW3.out.b.c1
  clear x20 x21 x22 x23 x24 x25 x26
  clear hb3
  go_wp2_with fail
  refine ret_below (HSB.out _ (HJ.out.below HW3.out.be)) ?_
  intro w4 hb4
  have HW4 := Lib.hid (HW3.out.below hb4)
  have x40 := HW4.out.pl.c0
  have x41 := HW4.out.pl.c1
  have x42 := HW4.out.pl.c2
  have x43 := HW4.out.a.c0
  have x44 := HW4.out.a.c1
  have x45 := HW4.out.b.c0
  have x46 := HW4.out.b.c1
  clear x30 x31 x32 x33 x34 x35 x36
  clear hb4
  have hlt := HW4.out.r.lt
  have f0 := HW4.out.r.frozen 0
  have f1 := HW4.out.r.frozen 1
  have r0 := HW4.out.r.c0
  have r1 := HW4.out.r.c1
  go_wp2_with fail
  go_region_held3 (fun w' => w'.cell? ⟨w.heap.size, 0, none⟩ = some (.int .i64 (p : Int)) ∧ w'.cell? ⟨w.heap.size + 1, 0, none⟩ = some (.int .i64 x) ∧ w'.cell? ⟨w.heap.size + 1, 1, none⟩ = some (.slice B k cb) ∧ w'.cell? ⟨w.heap.size + 1 + 1, 1, none⟩ = some (.slice B' k cb')) (first | (go_keep; done) | (refine ⟨?_, ?_, ?_, ?_⟩ <;> (first | (go_keep; done) | (refine keep_set2 (by dsimp only; omega) ?_; assumption) | (refine keep_set2 (by dsimp only; omega) ?_; go_keep))))
    ((go_at_call 39; refine (HLIN.out _ ((HI.out.below HW4.out.be).nats.below (below_drewT _)) ((HJ.out.below HW4.out.be).nats.below (below_drewT _))).mono ?_; intro e w5 he; obtain ⟨A6, c6, rfl, hN6, hS6, hO6, hb6⟩ := he.open_; have hb5 : Below w4.heap.size w4 w5 := (below_undrew1 hb6); have HW5 := Lib.hid (HW4.out.below hb5); have x50 := HW5.out.pl.c0; have x51 := HW5.out.pl.c1; have x52 := HW5.out.pl.c2; have x53 := HW5.out.a.c0; have x54 := HW5.out.a.c1; have x55 := HW5.out.b.c0; have x56 := HW5.out.b.c1; have g0 := HW5.out.r.frozen 0; have g1 := HW5.out.r.frozen 1; have v0 := HW5.out.r.c0; have v1 := HW5.out.r.c1; have hO6' : ∀ b off, A6 = some ⟨b, off, none⟩ → w4.heap.size ≤ b ∧ b < w5.heap.size := (fun b off e => by have := hO6 b off e; rw [World.size_drew] at this; exact this)))
  go_wp2_with fail
  refine bodyPost_ret (results_shr2 rfl _ _ (w.heap.size + 1 + 1 + 1) rfl (shcell_fill HW5.out.r x _)) rfl ⟨A6, c6, rfl, nats_set2 hN6 (fun b off e => by have := hO6' b off e; omega), hS6, fun b off e => ?_, ?_⟩
  · have := hO6' b off e
    rw [size_set2]
    exact ⟨Nat.le_trans HW4.out.be.size this.1, this.2⟩
  · exact below_set2 HW5.out.be (by omega) _ _

set_option maxRecDepth 100000 in
set_option maxHeartbeats 4000000 in
theorem refAddS_any (p n h x y : Int) (B B' : Option Addr) (L M : List Int) (cb cb' : Nat) (w : World) (hv : primeV p = validI p) (hI : IntsAt w B L) (hJ : IntsAt w B' M) (hl : L.length ≤ 1048576) (hm : M.length ≤ 1048576) :
    Calls Tryd.prog 36 #[planV p n h, shV x (.slice B L.length cb), shV y (.slice B' M.length cb')] w (NewShrE (adX p n h x y L M) (adL p n h x y L M) (adE p n h x y L M) w) := by
  by_cases hok : AdP p n h x y L M
  · have hok' := hok
    obtain ⟨hpl, hsa, hsb, rfl, hlen⟩ := hok
    obtain ⟨q, rfl, hq1, hq2⟩ := plB_nat hpl hv
    have h1 := inside_nat (stB_bd hsa).2.2
    have h2 := inside_nat (stB_bd hsb).2.2
    have := refAddS_ok q n h x B B' (L.map Int.toNat) (M.map Int.toNat) cb cb' L.length w hq1 hq2 hv hpl (by rw [h1.1]; exact hsa) (by rw [h2.1]; exact hsb) (by simp) (by simpa using hlen) h1.2 h2.2 (by rw [h1.1]; exact hI) (by rw [h2.1]; exact hJ) hl
    rw [adX_ok hok', adL_ok hok', adE_ok hok', ← hlen]
    exact this
  · have HE := Lib.hid (ad_no hok)
    have HI := Lib.hid hI
    have HJ := Lib.hid hJ
    by_cases hpl : plB p n h = true
    · by_cases hsa : stB p h x L = true
      · by_cases hsb : stB p h y M = true
        · by_cases hxy : x = y
          · subst hxy
            have hlen : ¬ L.length = M.length := fun e => hok ⟨hpl, hsa, hsb, rfl, e⟩
            have HV := Lib.hid (fun (W : World) => by have := refValid_plan p n h W hv; rw [hpl] at this; exact this)
            have HSA := Lib.hid (fun (W : World) (hI : IntsAt W B L) => by have := refStands_any p n h x B L cb W (plB_pv hpl hv) hI (by omega); rw [hsa] at this; exact this)
            have HSB := Lib.hid (fun (W : World) (hI : IntsAt W B' M) => by have := refStands_any p n h x B' M cb' W (plB_pv hpl hv) hI (by omega); rw [hsb] at this; exact this)
            clear hI hJ
            go_enter Tryd.func36, Tryd.ntmps36
            go_wp2_with fail
            refine ret_below (HV.out _) ?_
            intro w2 hb2
            have HW2 := Lib.hid ((AddW.start w _ _ _ _ _ _ _).below hb2)
            have x20 := HW2.out.pl.c0
            have x21 := HW2.out.pl.c1
            have x22 := HW2.out.pl.c2
            have x23 := HW2.out.a.c0
            have x24 := HW2.out.a.c1
            have x25 := HW2.out.b.c0
            have x26 := HW2.out.b.c1
            clear hb2
            go_wp2_with fail
            refine ret_below (HSA.out _ (HI.out.below HW2.out.be)) ?_
            intro w3 hb3
            have HW3 := Lib.hid (HW2.out.below hb3)
            have x30 := HW3.out.pl.c0
            have x31 := HW3.out.pl.c1
            have x32 := HW3.out.pl.c2
            have x33 := HW3.out.a.c0
            have x34 := HW3.out.a.c1
            have x35 := HW3.out.b.c0
            have x36 := HW3.out.b.c1
            clear x20 x21 x22 x23 x24 x25 x26
            clear hb3
            go_wp2_with fail
            refine ret_below (HSB.out _ (HJ.out.below HW3.out.be)) ?_
            intro w4 hb4
            have HW4 := Lib.hid (HW3.out.below hb4)
            have x40 := HW4.out.pl.c0
            have x41 := HW4.out.pl.c1
            have x42 := HW4.out.pl.c2
            have x43 := HW4.out.a.c0
            have x44 := HW4.out.a.c1
            have x45 := HW4.out.b.c0
            have x46 := HW4.out.b.c1
            clear x30 x31 x32 x33 x34 x35 x36
            clear hb4
            have hlt := HW4.out.r.lt
            have f0 := HW4.out.r.frozen 0
            have f1 := HW4.out.r.frozen 1
            have r0 := HW4.out.r.c0
            have r1 := HW4.out.r.c1
            go_wp2_with fail
            refine bodyPost_ret (results_shr2 rfl _ _ (w.heap.size + 1 + 1 + 1) rfl (shcell_fill HW4.out.r 0 _)) rfl ?_
            rw [HE.out.1, HE.out.2.1, HE.out.2.2]
            exact NewShrE.no (below_set2 HW4.out.be (by omega) _ _)
          · clear hok
            have HV := Lib.hid (fun (W : World) => by have := refValid_plan p n h W hv; rw [hpl] at this; exact this)
            have HSA := Lib.hid (fun (W : World) (hI : IntsAt W B L) => by have := refStands_any p n h x B L cb W (plB_pv hpl hv) hI (by omega); rw [hsa] at this; exact this)
            have HSB := Lib.hid (fun (W : World) (hI : IntsAt W B' M) => by have := refStands_any p n h y B' M cb' W (plB_pv hpl hv) hI (by omega); rw [hsb] at this; exact this)
            clear hI hJ
            go_enter Tryd.func36, Tryd.ntmps36
            go_wp2_with fail
            refine ret_below (HV.out _) ?_
            intro w2 hb2
            have HW2 := Lib.hid ((AddW.start w _ _ _ _ _ _ _).below hb2)
            have x20 := HW2.out.pl.c0
            have x21 := HW2.out.pl.c1
            have x22 := HW2.out.pl.c2
            have x23 := HW2.out.a.c0
            have x24 := HW2.out.a.c1
            have x25 := HW2.out.b.c0
            have x26 := HW2.out.b.c1
            clear hb2
            go_wp2_with fail
            refine ret_below (HSA.out _ (HI.out.below HW2.out.be)) ?_
            intro w3 hb3
            have HW3 := Lib.hid (HW2.out.below hb3)
            have x30 := HW3.out.pl.c0
            have x31 := HW3.out.pl.c1
            have x32 := HW3.out.pl.c2
            have x33 := HW3.out.a.c0
            have x34 := HW3.out.a.c1
            have x35 := HW3.out.b.c0
            have x36 := HW3.out.b.c1
            clear x20 x21 x22 x23 x24 x25 x26
            clear hb3
            go_wp2_with fail
            refine ret_below (HSB.out _ (HJ.out.below HW3.out.be)) ?_
            intro w4 hb4
            have HW4 := Lib.hid (HW3.out.below hb4)
            have x40 := HW4.out.pl.c0
            have x41 := HW4.out.pl.c1
            have x42 := HW4.out.pl.c2
            have x43 := HW4.out.a.c0
            have x44 := HW4.out.a.c1
            have x45 := HW4.out.b.c0
            have x46 := HW4.out.b.c1
            clear x30 x31 x32 x33 x34 x35 x36
            clear hb4
            have hlt := HW4.out.r.lt
            have f0 := HW4.out.r.frozen 0
            have f1 := HW4.out.r.frozen 1
            have r0 := HW4.out.r.c0
            have r1 := HW4.out.r.c1
            go_wp2_with fail
            refine bodyPost_ret (results_shr2 rfl _ _ (w.heap.size + 1 + 1 + 1) rfl (shcell_fill HW4.out.r 0 _)) rfl ?_
            rw [HE.out.1, HE.out.2.1, HE.out.2.2]
            exact NewShrE.no (below_set2 HW4.out.be (by omega) _ _)
        · clear hok
          have hsb' : stB p h y M = false := by simpa using hsb
          have HV := Lib.hid (fun (W : World) => by have := refValid_plan p n h W hv; rw [hpl] at this; exact this)
          have HSA := Lib.hid (fun (W : World) (hI : IntsAt W B L) => by have := refStands_any p n h x B L cb W (plB_pv hpl hv) hI (by omega); rw [hsa] at this; exact this)
          have HSB := Lib.hid (fun (W : World) (hI : IntsAt W B' M) => by have := refStands_any p n h y B' M cb' W (plB_pv hpl hv) hI (by omega); rw [hsb'] at this; exact this)
          clear hI hJ
          go_enter Tryd.func36, Tryd.ntmps36
          go_wp2_with fail
          refine ret_below (HV.out _) ?_
          intro w2 hb2
          have HW2 := Lib.hid ((AddW.start w _ _ _ _ _ _ _).below hb2)
          have x20 := HW2.out.pl.c0
          have x21 := HW2.out.pl.c1
          have x22 := HW2.out.pl.c2
          have x23 := HW2.out.a.c0
          have x24 := HW2.out.a.c1
          have x25 := HW2.out.b.c0
          have x26 := HW2.out.b.c1
          clear hb2
          go_wp2_with fail
          refine ret_below (HSA.out _ (HI.out.below HW2.out.be)) ?_
          intro w3 hb3
          have HW3 := Lib.hid (HW2.out.below hb3)
          have x30 := HW3.out.pl.c0
          have x31 := HW3.out.pl.c1
          have x32 := HW3.out.pl.c2
          have x33 := HW3.out.a.c0
          have x34 := HW3.out.a.c1
          have x35 := HW3.out.b.c0
          have x36 := HW3.out.b.c1
          clear x20 x21 x22 x23 x24 x25 x26
          clear hb3
          go_wp2_with fail
          refine ret_below (HSB.out _ (HJ.out.below HW3.out.be)) ?_
          intro w4 hb4
          have HW4 := Lib.hid (HW3.out.below hb4)
          have x40 := HW4.out.pl.c0
          have x41 := HW4.out.pl.c1
          have x42 := HW4.out.pl.c2
          have x43 := HW4.out.a.c0
          have x44 := HW4.out.a.c1
          have x45 := HW4.out.b.c0
          have x46 := HW4.out.b.c1
          clear x30 x31 x32 x33 x34 x35 x36
          clear hb4
          have hlt := HW4.out.r.lt
          have f0 := HW4.out.r.frozen 0
          have f1 := HW4.out.r.frozen 1
          have r0 := HW4.out.r.c0
          have r1 := HW4.out.r.c1
          go_wp2_with fail
          refine bodyPost_ret (results_shr2 rfl _ _ (w.heap.size + 1 + 1 + 1) rfl (shcell_fill HW4.out.r 0 _)) rfl ?_
          rw [HE.out.1, HE.out.2.1, HE.out.2.2]
          exact NewShrE.no (below_set2 HW4.out.be (by omega) _ _)
      · clear hok
        have hsa' : stB p h x L = false := by simpa using hsa
        have HV := Lib.hid (fun (W : World) => by have := refValid_plan p n h W hv; rw [hpl] at this; exact this)
        have HSA := Lib.hid (fun (W : World) (hI : IntsAt W B L) => by have := refStands_any p n h x B L cb W (plB_pv hpl hv) hI (by omega); rw [hsa'] at this; exact this)
        clear hI hJ
        go_enter Tryd.func36, Tryd.ntmps36
        go_wp2_with fail
        refine ret_below (HV.out _) ?_
        intro w2 hb2
        have HW2 := Lib.hid ((AddW.start w _ _ _ _ _ _ _).below hb2)
        have x20 := HW2.out.pl.c0
        have x21 := HW2.out.pl.c1
        have x22 := HW2.out.pl.c2
        have x23 := HW2.out.a.c0
        have x24 := HW2.out.a.c1
        have x25 := HW2.out.b.c0
        have x26 := HW2.out.b.c1
        clear hb2
        go_wp2_with fail
        refine ret_below (HSA.out _ (HI.out.below HW2.out.be)) ?_
        intro w3 hb3
        have HW3 := Lib.hid (HW2.out.below hb3)
        have x30 := HW3.out.pl.c0
        have x31 := HW3.out.pl.c1
        have x32 := HW3.out.pl.c2
        have x33 := HW3.out.a.c0
        have x34 := HW3.out.a.c1
        have x35 := HW3.out.b.c0
        have x36 := HW3.out.b.c1
        clear x20 x21 x22 x23 x24 x25 x26
        clear hb3
        have hlt := HW3.out.r.lt
        have f0 := HW3.out.r.frozen 0
        have f1 := HW3.out.r.frozen 1
        have r0 := HW3.out.r.c0
        have r1 := HW3.out.r.c1
        go_wp2_with fail
        refine bodyPost_ret (results_shr2 rfl _ _ (w.heap.size + 1 + 1 + 1) rfl (shcell_fill HW3.out.r 0 _)) rfl ?_
        rw [HE.out.1, HE.out.2.1, HE.out.2.2]
        exact NewShrE.no (below_set2 HW3.out.be (by omega) _ _)
    · clear hok
      have hpl' : plB p n h = false := by simpa using hpl
      have HV := Lib.hid (fun (W : World) => by have := refValid_plan p n h W hv; rw [hpl'] at this; exact this)
      clear hI hJ
      go_enter Tryd.func36, Tryd.ntmps36
      go_wp2_with fail
      refine ret_below (HV.out _) ?_
      intro w2 hb2
      have HW2 := Lib.hid ((AddW.start w _ _ _ _ _ _ _).below hb2)
      have x20 := HW2.out.pl.c0
      have x21 := HW2.out.pl.c1
      have x22 := HW2.out.pl.c2
      have x23 := HW2.out.a.c0
      have x24 := HW2.out.a.c1
      have x25 := HW2.out.b.c0
      have x26 := HW2.out.b.c1
      clear hb2
      have hlt := HW2.out.r.lt
      have f0 := HW2.out.r.frozen 0
      have f1 := HW2.out.r.frozen 1
      have r0 := HW2.out.r.c0
      have r1 := HW2.out.r.c1
      go_wp2_with fail
      refine bodyPost_ret (results_shr2 rfl _ _ (w.heap.size + 1 + 1 + 1) rfl (shcell_fill HW2.out.r 0 _)) rfl ?_
      rw [HE.out.1, HE.out.2.1, HE.out.2.2]
      exact NewShrE.no (below_set2 HW2.out.be (by omega) _ _)

end Go.Proofs.YtkjpnhhkebbmdaaDoor
