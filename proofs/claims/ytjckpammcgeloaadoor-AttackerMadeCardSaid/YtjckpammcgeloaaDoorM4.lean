/-
  Shares: the sum of two, the product with an element.
  Shares: sums of shares are shares of sums; lists of shares under way whose values lie anywhere.
  Shares: the document's Deal.
  Shares: the verifier's Dealt.
  Shares: the comparison of equal lists; sums of two lists.
  Shares: a plan of dice that may not be valid.
  Shares: rows of shares in which something is changed.
  Gifts: a share of the own turns in place; worlds in which all blocks but some stand.
  Gifts: shares and lists of shares compared, by the program and by the document.
  ranges.In.
  Gifts: what they are in memory; compared; which lies are told; places.
  Gifts: which lies there are; places; the document's comparison.
  Conditions: those that each theorem names.
-/
import Derived.Test.YtjckpammcgeloaaDoorM3
import Derived.StillTailTactics
import Derived.Deep.RegionWith
import Derived.Conc.EntryLaws
set_option linter.unusedVariables false
set_option linter.unusedSimpArgs false
namespace Go.Proofs.YtjckpammcgeloaaDoor
open Go.RowKit

/-- A new share. -/
def NewShr (x : Int) (L : List Nat) (w : World) (e : Ending) (w' : World) : Prop :=
  ∃ A c, e = .returned (shV x (.slice A L.length c)) ∧ NatsAt w' A L ∧ SlOK A c L ∧ (∀ b off, A = some ⟨b, off, none⟩ → w.heap.size ≤ b ∧ b < w'.heap.size) ∧ Below w.heap.size w w'
def NewShrE (x : Int) (L : List Nat) (er : Int) (w : World) (e : Ending) (w' : World) : Prop :=
  ∃ A c, e = .returned (.tuple #[shV x (.slice A L.length c), .int .i64 er]) ∧ NatsAt w' A L ∧ SlOK A c L ∧ (∀ b off, A = some ⟨b, off, none⟩ → w.heap.size ≤ b ∧ b < w'.heap.size) ∧ Below w.heap.size w w'
theorem results_shr {fn : Func} {t : Tmp} (h : fn.results = #[.cell t 35]) (tmps : Array Value) (w : World) (g : Nat) (hp : tmps.getD t undef = .pointer (some ⟨g, 0, none⟩)) {x : Int} {v : Value} (hX : ShCell w g x v) :
    (results fn tmps).run Tryd.prog w = .ok (shV x v) w :=
  results_cell_row h tmps w g 35 _ (0, 0) _ hp hX Tryd.underlying35 rfl (by kernel_rfl)
theorem results_shr2 {fn : Func} {t u : Tmp} (h : fn.results = #[.cell t 35, .tmp u]) (tmps : Array Value) (w : World) (g : Nat) (hp : tmps.getD t undef = .pointer (some ⟨g, 0, none⟩)) {x : Int} {v : Value} (hX : ShCell w g x v) :
    (results fn tmps).run Tryd.prog w = .ok (.tuple #[shV x v, tmps.getD u undef]) w := by
  have hp' : tmps[t]?.getD undef = .pointer (some ⟨g, 0, none⟩) := by simpa using hp
  have hr := run_loadVar_row (P := Tryd.prog) w g 35 35 _ (0, 0) _ hX Tryd.underlying35 rfl (by kernel_rfl)
  simp [results, h, hp', asAddr, hr]
theorem ShCell.lt {w : World} {g : Nat} {x : Int} {v : Value} (H : ShCell w g x v) : g < w.heap.size := blk_lt H
theorem keep_set2 {w : World} {g a b : Nat} {u v : Value} {q : Addr} {x : Value} (hq : q.block ≠ g) (h : w.cell? q = some x) : ((w.setCell ⟨g, a, none⟩ u).setCell ⟨g, b, none⟩ v).cell? q = some x :=
  ((World.cell?_setCell_other _ _ _ _ (fun e => hq (by subst e; rfl))).trans (World.cell?_setCell_other _ _ _ _ (fun e => hq (by subst e; rfl)))).trans h
theorem size_set2 {w : World} {a b : Addr} {u v : Value} : ((w.setCell a u).setCell b v).heap.size = w.heap.size := by simp [World.setCell]
theorem shcell_fill {w : World} {g : Nat} {x : Int} {v : Value} (H : ShCell w g x v) (y : Int) (u : Value) : ShCell ((w.setCell ⟨g, 0, none⟩ (.int .i64 y)).setCell ⟨g, 1, none⟩ u) g y u := (H.set0 y).set1 u
theorem nats_set2 {w : World} {g a b : Nat} {u v : Value} {A : Option Addr} {L : List Nat} (h : NatsAt w A L) (hA : ∀ b off, A = some ⟨b, off, none⟩ → b ≠ g) : NatsAt ((w.setCell ⟨g, a, none⟩ u).setCell ⟨g, b, none⟩ v) A L := fun k hk => by
  obtain ⟨b1, off, e, hlt, hc⟩ := h k hk
  exact ⟨b1, off, e, by rw [size_set2]; exact hlt, keep_set2 (hA b1 off e) hc⟩
theorem below_set2 {w w' : World} {B g a b : Nat} (h : Below B w w') (hg : B ≤ g) (u v : Value) : Below B w ((w'.setCell ⟨g, a, none⟩ u).setCell ⟨g, b, none⟩ v) :=
  ⟨h.os, h.tape, h.output, by rw [size_set2]; exact h.size, fun k hk => ((Below.heap_setCell _ _ _ k (by dsimp only; omega)).trans (Below.heap_setCell _ _ _ k (by dsimp only; omega))).trans (h.block k hk)⟩
/-- The plan, both shares, the result. -/
structure AddW (w w' : World) (p n h x : Int) (v : Value) (y : Int) (u : Value) : Prop where
  pl : PlanCell w' w.heap.size p n h
  a : ShCell w' (w.heap.size + 1) x v
  b : ShCell w' (w.heap.size + 1 + 1) y u
  r : ShCell w' (w.heap.size + 1 + 1 + 1) 0 (.slice none 0 0)
  be : Below w.heap.size w w'
theorem AddW.below {w w' w2 : World} {p n h x : Int} {v : Value} {y : Int} {u : Value} (H : AddW w w' p n h x v y u) (hb : Below w'.heap.size w' w2) : AddW w w2 p n h x v y u :=
  ⟨H.pl.below hb, H.a.below hb, H.b.below hb, H.r.below hb, below_trans H.be hb⟩
theorem AddW.start (w : World) (p n h x : Int) (v : Value) (y : Int) (u : Value) : AddW w ((((w.alloc (.cells #[.int .i64 p, .int .i64 n, .int .i64 h] 29)).alloc (.cells #[.int .i64 x, v] 35)).alloc (.cells #[.int .i64 y, u] 35)).alloc (.cells #[.int .i64 0, .slice none 0 0] 35)) p n h x v y u :=
  ⟨(((PlanCell.new _ _ _ rfl).alloc _).alloc _).alloc _, ((ShCell.new _ _ (by simp)).alloc _).alloc _, (ShCell.new _ _ (by simp)).alloc _, ShCell.new _ _ (by simp),
    below_trans (below_trans (below_trans (below_alloc _ _) (below_alloc _ _)) (below_alloc _ _)) (below_alloc _ _)⟩
theorem AddW.bases {w : World} {a b c d : Obj} (hB : Bases w) : Bases ((((w.alloc a).alloc b).alloc c).alloc d) :=
  hB.below (below_trans (below_trans (below_trans (below_alloc w a) (below_alloc _ b)) (below_alloc _ c)) (below_alloc _ d)) hB.1
def AdP (p n h x y : Int) (L M : List Int) : Prop := plB p n h = true ∧ stB p h x L = true ∧ stB p h y M = true ∧ x = y ∧ L.length = M.length
instance (p n h x y : Int) (L M : List Int) : Decidable (AdP p n h x y L M) := by unfold AdP; exact inferInstance
def adE (p n h x y : Int) (L M : List Int) : Int := if AdP p n h x y L M then 0 else 1
def adX (p n h x y : Int) (L M : List Int) : Int := if AdP p n h x y L M then x else 0
def adL (p n h x y : Int) (L M : List Int) : List Nat := if AdP p n h x y L M then linN p.toNat (L.map Int.toNat) (M.map Int.toNat) 1 else []
theorem adE_ok {p n h x y : Int} {L M : List Int} (H : AdP p n h x y L M) : adE p n h x y L M = 0 := if_pos H
theorem adX_ok {p n h x y : Int} {L M : List Int} (H : AdP p n h x y L M) : adX p n h x y L M = x := if_pos H
theorem adL_ok {p : Nat} {n h x y : Int} {L M : List Int} (H : AdP p n h x y L M) : adL p n h x y L M = linN p (L.map Int.toNat) (M.map Int.toNat) 1 := if_pos H
theorem ad_no {p n h x y : Int} {L M : List Int} (H : ¬ AdP p n h x y L M) : adE p n h x y L M = 1 ∧ adX p n h x y L M = 0 ∧ adL p n h x y L M = [] := ⟨if_neg H, if_neg H, if_neg H⟩
theorem NewShrE.no {w w' : World} (hb : Below w.heap.size w w') : NewShrE 0 [] 1 w (.returned (.tuple #[shV 0 (.slice none 0 0), .int .i64 1])) w' :=
  ⟨none, 0, rfl, NatsAt.nil _ _, SlOK.none0, fun _ _ e => (by cases e), hb⟩
theorem plB_nat {p n h : Int} (H : plB p n h = true) (hv : primeV p = validI p) : ∃ q : Nat, p = (q : Int) ∧ 1 ≤ q ∧ q ≤ 2147483648 := by
  obtain ⟨q, h1, h2, h3⟩ := plan_prime (of_decide_eq_true H) hv
  have := h2.1
  exact ⟨q, h1, by omega, by omega⟩
theorem plB_two {p : Nat} {n h : Int} (H : plB p n h = true) : 1 < p := by
  have : PlanP p n h := of_decide_eq_true H
  obtain ⟨h1, h2, h3, h4, -⟩ := this
  omega
theorem plB_pv {p n h : Int} (H : plB p n h = true) (hv : primeV p = validI p) : primeV p = true := by
  have : PlanP p n h := of_decide_eq_true H
  rw [hv]; exact this.2.2.2.2

end Go.Proofs.YtjckpammcgeloaaDoor
namespace Go.Proofs.YtjckpammcgeloaaDoor
open Go.RowKit

/-! ### Sums -/
theorem cg_evs {p x : Nat} (L : List Nat) (n : Nat) (h : L.length ≤ n) : Cg p (evN p L x : Nat) (sumI n fun k => (nthN L k : Int) * x ^ k) := (cg_ev p x L).trans (.of_eq (evalZ_sum x L n h))
theorem ev_lin {p : Nat} (hp : 1 ≤ p) (F G : List Nat) (c x : Nat) : evN p (linN p F G c) x = fadd p (evN p F x) (fmul p c (evN p G x)) := by
  refine Cg.nat ((cg_evs (linN p F G c) (max F.length G.length) (by rw [linN_len]; exact Nat.le_refl _)).trans ?_) (evN_lt hp _ _) (fadd_lt hp _ _)
  refine (sumI_cg (g := fun k => (nthN F k : Int) * x ^ k + c * ((nthN G k : Int) * x ^ k)) _ fun k hk => ?_).trans ?_
  · rw [linN_nth hk]
    refine (((cg_add p _ _).trans ((Cg.refl p _).add (cg_mul p _ _))).mul (Cg.refl p _)).trans (.of_eq (by grind))
  · rw [sumI_add, sumI_mul]
    exact ((cg_add p _ _).trans ((cg_evs F _ (Nat.le_max_left _ _)).add ((cg_mul p _ _).trans ((Cg.refl p _).mul (cg_evs G _ (Nat.le_max_right _ _)))))).symm
theorem lin_one {p y : Nat} (h : y < p) : fmul p 1 (fadd p 0 y) = y := by unfold fmul fadd; rw [Nat.one_mul, Nat.zero_add, Nat.mod_mod, Nat.mod_eq_of_lt h]
theorem lin0_len {p c : Nat} {M : List Nat} : (linN p [] M c).length = M.length := by rw [linN_len]; simp
def sumV (p : Nat) (L M : List Nat) (c : Nat) : List Nat := linN p L (linN p [] M c) 1
theorem sumV_len {p c : Nat} {L M : List Nat} (h : L.length = M.length) : (sumV p L M c).length = L.length := by simp [sumV, linN_len, h]
theorem sumV_nth {p c i : Nat} {L M : List Nat} (hp : 1 ≤ p) (h : L.length = M.length) (hi : i < L.length) : nthN (sumV p L M c) i = fadd p (nthN L i) (fmul p c (nthN M i)) := by
  unfold sumV
  rw [linN_nth (by rw [linN_len]; omega), linN_nth (by simp; omega), nthN_nil, lin_one (fmul_lt hp _ _)]
/-- The shares N and c times M. -/
def addT (p c : Nat) (N M : List ShN) : List ShN := (List.range N.length).map fun k => (hN N k, sumV p (vN N k) (vN M k) c)
theorem addT_len (p c : Nat) (N M : List ShN) : (addT p c N M).length = N.length := by simp [addT]
theorem addT_at {p c k : Nat} {N M : List ShN} (h : k < N.length) : hN (addT p c N M) k = hN N k ∧ vN (addT p c N M) k = sumV p (vN N k) (vN M k) c := by
  simp [addT, hN, vN, List.getD_eq_getElem?_getD, h]
theorem addT_take {p c k : Nat} {N M : List ShN} (h : k < N.length) : (addT p c N M).take (k + 1) = (addT p c N M).take k ++ [(hN N k, sumV p (vN N k) (vN M k) c)] := by
  rw [List.take_succ_eq_append_getElem (by rw [addT_len]; exact h), getD_at (by rw [addT_len]; exact h), (addT_at h).1, (addT_at h).2]
theorem add_on {p h m c : Nat} {F G : Nat → List Nat} {N M : List ShN} (hp : 1 ≤ p) (H : OnP p h m F N) (K : OnP p h m G M) (hl : M.length = N.length) (hh : ∀ k, k < N.length → hN M k = hN N k) :
    OnP p h m (fun i => linN p (F i) (G i) c) (addT p c N M) := by
  refine ⟨fun s hs => ?_, ?_⟩
  · obtain ⟨k, hk, rfl⟩ := shl_mem hs
    rw [addT_len] at hk
    rw [(addT_at hk).1, (addT_at hk).2]
    obtain ⟨h1, h2, h3⟩ := H.at_ hk
    obtain ⟨-, -, k3⟩ := K.at_ (show k < M.length by omega)
    refine ⟨h1, h2, ?_⟩
    simp only
    rw [hh k hk] at k3
    have l1 : (vN N k).length = m := by rw [h3]; simp
    have l2 : (vN M k).length = m := by rw [k3]; simp
    refine extN (by rw [sumV_len (by omega)]; simp [l1]) fun i hi => ?_
    rw [sumV_len (by omega)] at hi
    rw [sumV_nth hp (by omega) hi, h3, k3, nthN_eq (by simpa [l1] using hi), nthN_eq (by simpa [l1] using hi), nthN_eq (by simpa [l1] using hi)]
    simp [ev_lin hp]
  · refine nodup_hsN fun k hk j hj => ?_
    rw [addT_len] at hk
    rw [(addT_at hk).1, (addT_at (show j < N.length by omega)).1]
    exact (hsN_ne H.nd (show j < N.length by omega) hk (by omega))
theorem Made.add {p n h c : Nat} {a b : List Nat} {N M : List ShN} (hp : 1 ≤ p) (H : Made p n h a N) (K : Made p n h b M) (hab : a.length = b.length) (hl : M.length = N.length) (hh : ∀ k, k < N.length → hN M k = hN N k) :
    Made p n h (linN p a b c) (addT p c N M) := by
  obtain ⟨F, h1, h2, h3⟩ := H.ex
  obtain ⟨G, k1, k2, k3⟩ := K.ex
  have hle : (linN p a b c).length = a.length := by rw [linN_len]; omega
  rw [← hab] at k1 k2
  refine ⟨fun i => linN p (F i) (G i) c, by rw [hle]; exact add_on hp h1 k1 hl hh, fun i hi => ?_, ?_⟩
  · rw [hle] at hi
    have := h2 i hi; have := k2 i hi
    rw [linN_len]; omega
  · refine extN (by simp) fun i hi => ?_
    have hi' : i < a.length := by simpa [hle] using hi
    have e1 : nthN a i = evN p (F i) 0 := by
      conv => lhs; rw [← h3]
      rw [nthN_eq (by simpa using hi')]; simp
    have e2 : nthN b i = evN p (G i) 0 := by
      conv => lhs; rw [← k3]
      rw [nthN_eq (by simp; omega)]; simp
    rw [nthN_eq hi, linN_nth (by omega), e1, e2]
    simp [ev_lin hp]
theorem deal_hold {p n h k : Nat} {a b ra rb : List Nat} (hk : k < (dealN p n h a ra).length) : hN (dealN p n h b rb) k = hN (dealN p n h a ra) k := by
  rw [deal_len] at hk
  unfold dealN
  rw [(dealtT_at hk).1, (dealtT_at hk).1]

theorem gen_calls {P : Program} {f : FuncId} {args : Array Value} {w : World} {Q : Ending → World → Prop} (h : ∀ w', w' = w → Calls P f args w' Q) : Calls P f args w Q := h w rfl
theorem deal_row {p n h k : Nat} {sec ran : List Nat} (hp : 1 ≤ p) (hk : k < h) : hN (dealN p n h sec ran) k = k + 1 ∧ (vN (dealN p n h sec ran) k).length = sec.length ∧ ∀ y ∈ vN (dealN p n h sec ran) k, y < p := by
  unfold dealN
  rw [(dealtT_at hk).1, (dealtT_at hk).2]
  refine ⟨rfl, by simp, fun y hy => ?_⟩
  obtain ⟨i, -, rfl⟩ := List.mem_map.1 hy
  exact evN_lt hp _ _

/-! ### A share that a call returned, laid into a variable: the variable is made before or behind the call -/
theorem bl_refl (w : World) : Below w.heap.size w w := Below.refl _ w
theorem bl_drew {w0 w : World} (h : Below w0.heap.size w0 w) : Below w0.heap.size w0 w.drew := h.drew
theorem bl_alloc {w0 w : World} (o : Obj) (h : Below w0.heap.size w0 w) : Below w0.heap.size w0 (w.alloc o) := below_trans h (below_alloc _ _)
abbrev shO : Obj := .cells #[.int .i64 0, .slice none 0 0] 35
structure ShNew (w0 w : World) (g : Nat) (x : Int) (A : Option Addr) (c : Nat) (L : List Nat) : Prop where
  cell : ShCell w g x (.slice A L.length c)
  nats : NatsAt w A L
  ok : SlOK A c L
  off : ∀ b off, A = some ⟨b, off, none⟩ → w0.heap.size ≤ b ∧ b < w.heap.size
  low : w0.heap.size ≤ g
  below : Below w0.heap.size w0 w
theorem ShNew.drew {w0 w : World} {g : Nat} {x : Int} {A : Option Addr} {c : Nat} {L : List Nat} (h : ShNew w0 w g x A c L) : ShNew w0 w.drew g x A c L := ⟨h.cell, h.nats, h.ok, h.off, h.low, h.below.drew⟩
theorem ShNew.early {w0 W w : World} {g : Nat} {x : Int} {A : Option Addr} {c : Nat} {L : List Nat} (hR : ShCell W g 0 (.slice none 0 0)) (hg : w0.heap.size ≤ g) (hW : Below w0.heap.size w0 W) (hb : Below W.heap.size W w) (hN : NatsAt w A L) (hS : SlOK A c L) (hO : ∀ b off, A = some ⟨b, off, none⟩ → W.heap.size ≤ b ∧ b < w.heap.size) :
    ShNew w0 ((w.setCell ⟨g, 0, none⟩ (.int .i64 x)).setCell ⟨g, 1, none⟩ (.slice A L.length c)) g x A c L := by
  have hl := hR.lt
  refine ⟨shcell_fill (hR.below hb) x _, nats_set2 hN (fun b off e => by have := hO b off e; omega), hS, fun b off e => ?_, hg, below_set2 (below_trans hW hb) hg _ _⟩
  rw [size_set2]
  have := hO b off e
  have := hW.size
  omega
theorem ShNew.late {w0 w : World} {x : Int} {A : Option Addr} {c : Nat} {L : List Nat} (hb : Below w0.heap.size w0 w) (hN : NatsAt w A L) (hS : SlOK A c L) (hO : ∀ b off, A = some ⟨b, off, none⟩ → w0.heap.size ≤ b ∧ b < w.heap.size) :
    ShNew w0 (w.alloc (.cells #[.int .i64 x, .slice A L.length c] 35)) w.heap.size x A c L :=
  ⟨ShCell.new _ _ rfl, hN.below (below_alloc _ _), hS, fun b off e => by rw [size_alloc]; have := hO b off e; omega, hb.size, bl_alloc _ hb⟩
theorem gen_last {α : Type} {f : α → World → Prop} {a : α} {w : World} (h : ∀ w', w' = w → f a w') : f a w := h w rfl

/-! ### Lists of shares under way -/
structure RowsV (Q : Nat → Prop) (w : World) (base : Nat) (v : Value) (S : List Shr) : Prop where
  ex : ∃ H : List HV, HvOwn w base v H ∧ H.length = S.length ∧ ∀ k, k < S.length → (hvAt H k).1 = hS S k ∧ ∃ B c, (hvAt H k).2 = .slice B (vS S k).length c ∧ IntsP (fun b => Q b ∧ v.ownBlock ≠ some b) w B c (vS S k)
theorem RowsV.nil (Q : Nat → Prop) (w : World) (base : Nat) : RowsV Q w base (.slice none 0 0) [] := ⟨[], HvOwn.nil _ _, rfl, fun k hk => absurd hk (by simp)⟩
theorem RowsV.kept {Q : Nat → Prop} {w w' : World} {base : Nat} {v : Value} {S : List Shr} {row : Option Nat} (h : RowsV Q w base v S) (hg : w.grownBy w' row) (h1 : v.ownBlock = none ∨ v.ownBlock ≠ row) (h2 : ∀ b, Q b → row ≠ some b) : RowsV Q w' base v S := by
  obtain ⟨H, e1, e2, e3⟩ := h.ex
  refine ⟨H, e1.kept hg h1, e2, fun k hk => ?_⟩
  obtain ⟨f1, B, c, f2, f3⟩ := e3 k hk
  exact ⟨f1, B, c, f2, f3.keep ⟨hg.size, fun b hb hlt => hg.block b hlt (fun e => h2 b hb.1 e.symm)⟩⟩
theorem RowsV.below {Q : Nat → Prop} {w w' : World} {base : Nat} {v : Value} {S : List Shr} (h : RowsV Q w base v S) (hb : Below w.heap.size w w') : RowsV Q w' base v S := by
  obtain ⟨H, e1, e2, e3⟩ := h.ex
  refine ⟨H, e1.below hb, e2, fun k hk => ?_⟩
  obtain ⟨f1, B, c, f2, f3⟩ := e3 k hk
  exact ⟨f1, B, c, f2, f3.keep (Kept.below hb)⟩
theorem RowsV.more {Q : Nat → Prop} {w w' : World} {base : Nat} {v v' : Value} {H : List HV} {S : List Shr} (e2 : H.length = S.length)
    (e3 : ∀ k, k < S.length → (hvAt H k).1 = hS S k ∧ ∃ B c, (hvAt H k).2 = .slice B (vS S k).length c ∧ IntsP (fun b => Q b ∧ v.ownBlock ≠ some b) w B c (vS S k))
    (x : Int) (L : List Int) {B : Option Addr} {c : Nat} (hI : IntsP (fun b => Q b ∧ v.ownBlock ≠ some b) w B c L) (hown : HvOwn w' base v' (H ++ [(x, .slice B L.length c)])) (hg : w.grownBy w' v.ownBlock)
    (hv : v'.ownBlock = v.ownBlock ∨ v'.ownBlock = some w.heap.size) : RowsV Q w' base v' (S ++ [(x, L)]) := by
  have key : ∀ {B : Option Addr} {c : Nat} {L : List Int}, IntsP (fun b => Q b ∧ v.ownBlock ≠ some b) w B c L → IntsP (fun b => Q b ∧ v'.ownBlock ≠ some b) w' B c L := fun hI =>
    ((hI.mono (Q := fun b => (Q b ∧ v'.ownBlock ≠ some b) ∧ v.ownBlock ≠ some b) (fun b hlt hb => ⟨⟨hb.1, fun e => by
      rcases hv with h | h
      · exact hb.2 (h ▸ e)
      · rw [h] at e; injection e with e; omega⟩, hb.2⟩)).keep (w' := w') ⟨hg.size, fun b hb hlt => hg.block b hlt (fun e => hb.2 e.symm)⟩).mono (fun b _ hb => hb.1)
  refine ⟨_, hown, by simp [e2], fun k hk => ?_⟩
  rcases Nat.lt_or_ge k S.length with h | h
  · obtain ⟨f1, B', c', f2, f3⟩ := e3 k h
    rw [hvAt_append (by omega), (hS_append h).1, (hS_append h).2]
    exact ⟨f1, B', c', f2, key f3⟩
  · obtain rfl : k = S.length := by simp at hk; omega
    rw [hS_last.1, hS_last.2]
    rw [show S.length = H.length from e2.symm, hvAt_last]
    exact ⟨rfl, B, c, rfl, key hI⟩
theorem RowsV.read {Q : Nat → Prop} {w : World} {base : Nat} {v : Value} {S : List Shr} (h : RowsV Q w base v S) : ∃ A c, v = .slice A S.length c ∧ ShP (fun b => base ≤ b ∨ Q b) w A c S := by
  obtain ⟨H, e1, e2, e3⟩ := h.ex
  rcases Nat.eq_zero_or_pos S.length with h0 | h0
  · have : S = [] := List.eq_nil_of_length_eq_zero h0
    subst this
    have hH : H = [] := List.eq_nil_of_length_eq_zero e2
    subst hH
    rcases e1.2 with ⟨rfl, -⟩ | ⟨g, cap, cur, rfl, hg, hh, hnc, hcm, hcs, htk⟩
    · exact ⟨none, 0, rfl, ShP.nil _ _⟩
    · exact ⟨_, cap, rfl, fun k hk => absurd hk (by simp), ⟨Nat.zero_le _, hcm, (fun e => by cases e), .inl rfl⟩⟩
  · obtain ⟨g, c, rfl, hg, hbg, hlc, hcm, hcell, -⟩ := e1.form (by rw [e2]; exact h0)
    refine ⟨some ⟨g, 0, none⟩, c, by rw [e2], fun k hk => ?_, ⟨by rw [← e2]; exact hlc, hcm, (fun e => by cases e), .inr (fun a e => by injection e with e; subst e; rfl)⟩⟩
    obtain ⟨f1, B, c', f2, f3⟩ := e3 k hk
    obtain ⟨c1, c2⟩ := hcell k (by rw [e2]; exact hk)
    refine ⟨g, 0, B, c', rfl, hg, .inl hbg, ?_, ?_, f3.mono (fun b _ hb => .inr hb.1)⟩
    · rw [Nat.zero_add, c1, f1]
    · rw [Nat.zero_add, c2, f2]
theorem ShNew.ints {wr w9 W : World} {base g : Nat} {x : Int} {v : Value} {A : Option Addr} {c : Nat} {L : List Nat} {S : List Shr} (h : ShNew wr w9 g x A c L) (hR : RowsV (fun b => base ≤ b) wr base v S) (hb : base ≤ wr.heap.size) (hw : Below w9.heap.size w9 W) :
    IntsP (fun b => base ≤ b ∧ v.ownBlock ≠ some b) W A c (ofN L) := by
  obtain ⟨H, e1, -, -⟩ := hR.ex
  refine ⟨(h.nats.below hw).ints, by rw [len_ofN]; exact h.ok.iok, fun b off e => .inr ⟨by have := h.off b off e; omega, fun e2 => ?_⟩⟩
  have := (World.ownsRow.lt e1 b e2).2
  have := h.off b off e
  omega
/-- One share more, that lies in a variable. -/
theorem RowsV.put {wr w9 W w4 : World} {base g : Nat} {x : Nat} {v v4 : Value} {A : Option Addr} {c : Nat} {L : List Nat} {T T' : List ShN} {H : List HV} (hR : RowsV (fun b => base ≤ b) wr base v (shL T)) (hN : ShNew wr w9 g x A c L) (hb : base ≤ wr.heap.size) (hW : W = w9.alloc (.cells #[.int .i64 (x : Int), .slice A L.length c] 35))
    (hH : HvOwn W base v H ∧ H.length = (shL T).length ∧ ∀ k, k < (shL T).length → (hvAt H k).1 = hS (shL T) k ∧ ∃ B c, (hvAt H k).2 = .slice B (vS (shL T) k).length c ∧ IntsP (fun b => base ≤ b ∧ v.ownBlock ≠ some b) W B c (vS (shL T) k))
    (hown : HvOwn w4 base v4 (H ++ [((x : Int), .slice A L.length c)])) (hg : W.grownBy w4 v.ownBlock) (hv : v4.ownBlock = v.ownBlock ∨ v4.ownBlock = some W.heap.size) (hT : T' = T ++ [(x, L)]) : RowsV (fun b => base ≤ b) w4 base v4 (shL T') := by
  subst hW hT
  rw [show shL (T ++ [(x, L)]) = shL T ++ [((x : Int), ofN L)] from by simp [shL, shI]]
  exact RowsV.more hH.2.1 hH.2.2 x (ofN L) (hN.ints hR hb (below_alloc _ _)) (by rw [len_ofN]; exact hown) hg hv
end Go.Proofs.YtjckpammcgeloaaDoor
namespace Go.Proofs.YtjckpammcgeloaaDoor
open Go.RowKit

attribute [local go_sem high] sliced_low
/-- The values that holder k + 1 gets. -/
def rowN (p n : Nat) (SN RN : List Nat) (x : Nat) : List Nat := (List.range SN.length).map fun i => evN p (polN SN RN (n - 1) i) x
theorem rowN_len (p n : Nat) (SN RN : List Nat) (x : Nat) : (rowN p n SN RN x).length = SN.length := by simp [rowN]
theorem rowN_take {p n x i : Nat} {SN RN : List Nat} (h : i < SN.length) : (rowN p n SN RN x).take (i + 1) = (rowN p n SN RN x).take i ++ [evN p (polN SN RN (n - 1) i) x] := by
  rw [List.take_succ_eq_append_getElem (by rw [rowN_len]; exact h)]; simp [rowN]
theorem deal_take {p n h k : Nat} {SN RN : List Nat} (hk : k < h) : (dealN p n h SN RN).take (k + 1) = (dealN p n h SN RN).take k ++ [(k + 1, rowN p n SN RN (k + 1))] := by
  have hk' : k < (dealN p n h SN RN).length := by rw [deal_len]; exact hk
  rw [List.take_succ_eq_append_getElem hk', getD_at hk']
  unfold dealN
  rw [(dealtT_at hk).1, (dealtT_at hk).2]; rfl
theorem take_len {L : List Nat} {n i : Nat} (h : L.length = n) (hi : i ≤ n) : (L.take i).length = i := by rw [List.length_take]; omega

end Go.Proofs.YtjckpammcgeloaaDoor
namespace Go.Proofs.YtjckpammcgeloaaDoor
open Go.RowKit

/-- What a dealt secret is. -/
structure DealtN (p n h most : Nat) (sec ran : List Nat) : Prop where
  lo : 1 ≤ sec.length
  hi : sec.length ≤ most
  sp : ∀ x ∈ sec, x < p
  rp : ∀ x ∈ ran, x < p
  ln : ran.length = sec.length * (n - 1)
def DealtP (D p n h most : Nat) (w : World) (e : Ending) (w' : World) : Prop :=
  ∃ (A : Option Addr) (c : Nat) (sec : List Nat) (A' : Option Addr) (c' : Nat) (ran : List Nat) (R' : List Int), e = .returned (.tuple #[.slice A sec.length c, .slice A' h c']) ∧ DealtN p n h most sec ran ∧ Held w' D A c sec ∧ ShP (· ≠ D) w' A' c' (shL (dealN p n h sec ran)) ∧ DiceAt w' D R' ∧ w.grownBy w' (some D)

end Go.Proofs.YtjckpammcgeloaaDoor
namespace Go.Proofs.YtjckpammcgeloaaDoor
open Go.RowKit

set_option maxRecDepth 100000 in
set_option maxHeartbeats 4000000 in
theorem same_sh {P P' : Nat → Prop} (A A' : Option Addr) (S : List Shr) (c c' k k' : Nat) (w : World) (hA : ShP P w A c S) (hA' : ShP P' w A' c' S) (hsh : Short S) (hl : S.length ≤ 1048576) (hk : k = S.length) (hk' : k' = S.length) :
    Calls Tryd.prog 24 #[.slice A k c, .slice A' k' c'] w (RetB (.bool true) w) := by
  subst hk
  have hkk : k' = S.length := hk'
  subst hkk
  have HA := Lib.hid hA
  have HA' := Lib.hid hA'
  have HSH := Lib.hid hsh
  have t0 : ((S.length : Int) != (S.length : Int)) = false := by simp
  clear hA hA' hsh hk'
  go_enter Tryd.func24, Tryd.ntmps24
  go_wp2_with fail
  go_loopw [14] (fun i wr => ∃ k : Nat, k ≤ S.length ∧ i = .int .i64 k ∧ Below w.heap.size w wr) (fun i _ => S.length - (intOf i).toNat)
  case atStart => exact ⟨0, Nat.zero_le _, rfl, Below.refl _ _⟩
  case round =>
    obtain ⟨k, hk, rfl, hbr⟩ := hrel
    by_cases hlt : k < S.length
    · obtain ⟨b, off, B, c1, rfl, hb, -, x0, x1, x2⟩ := (HA.out.below hbr).at_ k hlt
      obtain ⟨b', off', B', c1', rfl, hb', -, y0, y1, y2⟩ := (HA'.out.below hbr).at_ k hlt
      have hvl := HSH.out k hlt
      have i1 : (0 : Int) ≤ (k : Int) := by omega
      have i2 : (k : Int) < (S.length : Int) := by omega
      generalize vS S k = L at *
      generalize hS S k = x at *
      have HX := Lib.hid x2
      have HY := Lib.hid y2
      have t1 : (x != x) = false := by simp
      clear x2 y2
      go_wp2_with fail
      refine gen_world fun w1 hw1 => ?_
      have hb1 : Below wr.heap.size wr w1 := by rw [hw1]; exact below_alloc _ _
      have hsc : ShCell w1 wr.heap.size x (.slice B L.length c1) := by rw [hw1]; exact ShCell.new _ _ rfl
      have s0 := hsc.c0
      have s1 := hsc.c1
      have z0 := (hb1.cell (p := ⟨b', off' + k * 2, none⟩) hb').trans y0
      have z1 := (hb1.cell (p := ⟨b', off' + k * 2 + 1, none⟩) hb').trans y1
      have HX1 := Lib.hid ((HX.out.keep (Kept.below hb1)).ints)
      have HY1 := Lib.hid ((HY.out.keep (Kept.below hb1)).ints)
      have hbw := hbr.trans (hb1.mono hbr.size)
      clear hw1 hsc x0 x1 y0 y1
      go_quiet ((go_at_call 42; exact Calls.quiet_of_same (same_refl B B' L c1 c1' _ HX1.out HY1.out (by omega))))
      go_wp2_with fail
      go_roundw
      case rel => exact ⟨k + 1, by omega, by go_num, below_drewN hbw _⟩
      case measure => simp [intOf]; omega
    · go_wp2_with fail
      go_ret
      exact RetB.bool rfl hbr

/-! ### Sums of two lists in order -/
theorem fmul_one {p x : Nat} (h : x < p) : fmul p 1 x = x := by unfold fmul; rw [Nat.one_mul, Nat.mod_eq_of_lt h]
theorem lin_sumV {p : Nat} (hp : 1 ≤ p) {L M : List Nat} (h : L.length = M.length) : linN p L M 1 = sumV p L M 1 := by
  refine extN (by rw [linN_len, sumV_len h, h]; simp) fun i hi => ?_
  rw [linN_len] at hi
  rw [linN_nth hi, sumV_nth hp h (by omega)]
def InOrd (N : List ShN) : Prop := ∀ k, k < N.length → hN N k = k + 1
theorem deal_ord (p n h : Nat) (sec ran : List Nat) : InOrd (dealN p n h sec ran) := fun k hk => by
  rw [deal_len] at hk
  unfold dealN
  rw [(dealtT_at hk).1]
/-- Each share of N and the one of M at the same place. -/
def plusT (p : Nat) (N M : List ShN) : List ShN := (List.range N.length).map fun k => (hN N k, linN p (vN N k) (vN M k) 1)
theorem plusT_len (p : Nat) (N M : List ShN) : (plusT p N M).length = N.length := by simp [plusT]
theorem plusT_at {p k : Nat} {N M : List ShN} (h : k < N.length) : hN (plusT p N M) k = hN N k ∧ vN (plusT p N M) k = linN p (vN N k) (vN M k) 1 := by
  simp [plusT, hN, vN, List.getD_eq_getElem?_getD, h]
theorem plusT_ord {p : Nat} {N M : List ShN} (h : InOrd N) : InOrd (plusT p N M) := fun k hk => by
  rw [plusT_len] at hk
  rw [(plusT_at hk).1]; exact h k hk
/-- What is known of shares of a list that all holders have, in order. -/
structure Full (p n h : Nat) (sec : List Nat) (N : List ShN) : Prop where
  made : Made p n h sec N
  ord : InOrd N
  len : N.length = h
theorem Full.deal {p n h : Nat} {sec ran : List Nat} (P : PlanN p n h) (hs : ∀ x ∈ sec, x < p) (hr : ∀ x ∈ ran, x < p) : Full p n h sec (dealN p n h sec ran) :=
  ⟨deal_Made P hs hr, deal_ord _ _ _ _ _, deal_len _ _ _ _ _⟩
theorem Made.good {p n h : Nat} {sec : List Nat} {N : List ShN} (H : Made p n h sec N) (hp : 1 ≤ p) (hm : sec.length ≤ 2048) : GoodN p h N := by
  obtain ⟨F, h1, h2, h3⟩ := H.ex
  exact h1.good hp hm
theorem Made.vlen {p n h : Nat} {sec : List Nat} {N : List ShN} (H : Made p n h sec N) {k : Nat} (hk : k < N.length) : (vN N k).length = sec.length := by
  obtain ⟨F, h1, h2, h3⟩ := H.ex
  rw [(h1.at_ hk).2.2]; simp
theorem plus_add {p : Nat} {N M : List ShN} (hp : 1 ≤ p) (hl : ∀ k, k < N.length → (vN N k).length = (vN M k).length) : plusT p N M = addT p 1 N M := by
  unfold plusT addT
  refine List.map_congr_left fun k hk => ?_
  have hk := List.mem_range.1 hk
  rw [lin_sumV hp (hl k hk)]
theorem Full.plus {p n h : Nat} {a b : List Nat} {N M : List ShN} (P : PlanN p n h) (H : Full p n h a N) (K : Full p n h b M) (hab : a.length = b.length) : Full p n h (linN p a b 1) (plusT p N M) := by
  have hl : M.length = N.length := K.len.trans H.len.symm
  have e : plusT p N M = addT p 1 N M := plus_add P.p1 (fun k hk => by rw [H.made.vlen hk, K.made.vlen (by omega), hab])
  refine ⟨by rw [e]; exact H.made.add P.p1 K.made hab hl (fun k hk => by rw [H.ord k hk, K.ord k (by omega)]), plusT_ord H.ord, by rw [plusT_len, H.len]⟩
theorem lin_zero {p : Nat} {a : List Nat} (h : ∀ x ∈ a, x < p) : linN p a (List.replicate a.length 0) 1 = a := by
  refine extN (by rw [linN_len]; simp) fun i hi => ?_
  rw [linN_len] at hi
  rw [linN_nth hi]
  have hi' : i < a.length := by simpa using hi
  have : nthN (List.replicate a.length 0) i = 0 := by simp [nthN, List.getD_eq_getElem?_getD, hi']
  rw [this]
  unfold fadd fmul
  rw [Nat.mul_zero, Nat.zero_mod, Nat.add_zero, Nat.mod_eq_of_lt (h _ (nthN_mem hi'))]
end Go.Proofs.YtjckpammcgeloaaDoor
namespace Go.Proofs.YtjckpammcgeloaaDoor
open Go.RowKit

attribute [local go_sem high] sliced_low
/-- The numbers of such a plan are no great ones. -/
structure AnyB (p n h : Int) : Prop where
  p1 : -7 ≤ p
  p2 : p ≤ 1073741827
  n1 : -1 ≤ n
  n2 : n ≤ 8
  h1 : 0 ≤ h
  h2 : h ≤ 1073741827
def AnyR (D : Nat) (w : World) (e : Ending) (w' : World) : Prop := ∃ (p n h : Int) (R' : List Int), e = .returned (planV p n h) ∧ AnyB p n h ∧ DiceAt w' D R' ∧ w.grownBy w' (some D)
def litP : List Int := [0, 1, 4, 9, -7, 1073741824, 1073741827, 500000004]
theorem litP_bd (k : Nat) (hk : k < 8) : -7 ≤ nth litP k ∧ nth litP k ≤ 1073741827 := by
  have : ∀ k, k < 8 → -7 ≤ nth litP k ∧ nth litP k ≤ 1073741827 := by decide
  exact this k hk
theorem lit_bd {L : List Int} {lo hi : Int} (h : ∀ x ∈ L, lo ≤ x ∧ x ≤ hi) {k : Nat} (hk : k < L.length) : lo ≤ nth L k ∧ nth L k ≤ hi := by rw [nth_eq hk]; exact h _ (List.getElem_mem hk)
theorem PlanCell.set0 {w : World} {x : Nat} {p n h : Int} (H : PlanCell w x p n h) (y : Int) : PlanCell (w.setCell ⟨x, 0, none⟩ (.int .i64 y)) x y n h := by
  unfold PlanCell at H ⊢; simp [World.setCell, Array.getElem?_modify, H]
theorem PlanCell.set1 {w : World} {x : Nat} {p n h : Int} (H : PlanCell w x p n h) (y : Int) : PlanCell (w.setCell ⟨x, 1, none⟩ (.int .i64 y)) x p y h := by
  unfold PlanCell at H ⊢; simp [World.setCell, Array.getElem?_modify, H]
theorem PlanCell.set2 {w : World} {x : Nat} {p n h : Int} (H : PlanCell w x p n h) (y : Int) : PlanCell (w.setCell ⟨x, 2, none⟩ (.int .i64 y)) x p n y := by
  unfold PlanCell at H ⊢; simp [World.setCell, Array.getElem?_modify, H]
theorem PlanCell.other {w : World} {x : Nat} {p n h : Int} (H : PlanCell w x p n h) (q : Addr) (u : Value) (hq : x ≠ q.block) : PlanCell (w.setCell q u) x p n h :=
  H.keep (Below.heap_setCell w q u x hq)

/-- What stands while such a plan is made. -/
structure ApW (w0 w : World) (D r x : Nat) (R : List Int) (p n h : Int) : Prop where
  dice : DiceAt w D R
  grown : w0.grownBy w (some D)
  r0 : PlanCell w r 0 0 0
  x0 : PlanCell w x p n h
  rlo : w0.heap.size ≤ r
  xlo : w0.heap.size ≤ x
  ne : r ≠ x
theorem ApW.dlt {w0 w : World} {D r x : Nat} {R : List Int} {p n h : Int} (H : ApW w0 w D r x R p n h) (hD : D < w0.heap.size) : D ≠ r ∧ D ≠ x := ⟨by have := H.rlo; omega, by have := H.xlo; omega⟩
theorem ApW.mv {w0 w w' : World} {D r x : Nat} {R R' : List Int} {p n h : Int} (H : ApW w0 w D r x R p n h) (hD : D < w0.heap.size) (hd : DiceAt w' D R') (hg : w.grownBy w' (some D)) : ApW w0 w' D r x R' p n h :=
  ⟨hd, grown_trans H.grown hg, H.r0.keep (hg.block r H.r0.lt (fun e => by injection e with e; have := H.rlo; omega)), H.x0.keep (hg.block x H.x0.lt (fun e => by injection e with e; have := H.xlo; omega)), H.rlo, H.xlo, H.ne⟩
theorem ApW.alloc {w0 w : World} {D r x : Nat} {R : List Int} {p n h : Int} (H : ApW w0 w D r x R p n h) (o : Obj) : ApW w0 (w.alloc o) D r x R p n h :=
  ⟨H.dice.alloc o, grown_trans H.grown (grown_of_below (below_alloc w o)), H.r0.alloc o, H.x0.alloc o, H.rlo, H.xlo, H.ne⟩
theorem ApW.set {w0 w w' : World} {D r x : Nat} {R : List Int} {p n h p' n' h' : Int} (H : ApW w0 w D r x R p n h) (hD : D < w0.heap.size) (j : Nat) (y : Int) (hw : w' = w.setCell ⟨x, j, none⟩ (.int .i64 y)) (hx : PlanCell w' x p' n' h') : ApW w0 w' D r x R p' n' h' := by
  subst hw
  exact ⟨H.dice.setCell _ _ (by have := H.xlo; show D < x; omega), grown_set H.grown _ _ H.xlo, H.r0.other _ _ H.ne, hx, H.rlo, H.xlo, H.ne⟩
def setQ (w : World) (x : Nat) (p n h : Int) : World := ((w.setCell ⟨x, 0, none⟩ (.int .i64 p)).setCell ⟨x, 1, none⟩ (.int .i64 n)).setCell ⟨x, 2, none⟩ (.int .i64 h)
theorem ApW.fin {w0 w : World} {D r x : Nat} {R : List Int} {p n h : Int} (H : ApW w0 w D r x R p n h) (hD : D < w0.heap.size) :
    DiceAt (setQ w r p n h) D R ∧ w0.grownBy (setQ w r p n h) (some D) ∧ PlanCell (setQ w r p n h) r p n h := by
  have hr := H.rlo
  refine ⟨((H.dice.setCell _ _ (by show D < r; omega)).setCell _ _ (by show D < r; omega)).setCell _ _ (by show D < r; omega), grown_set (grown_set (grown_set H.grown _ _ hr) _ _ hr) _ _ hr, H.r0.fill p n h⟩

theorem finA {w0 w : World} {D r : Nat} {R : List Int} {p n h : Int} (H : DiceAt w D R ∧ w0.grownBy w (some D) ∧ PlanCell w r p n h) (o : Obj) : DiceAt (w.alloc o) D R ∧ w0.grownBy (w.alloc o) (some D) ∧ PlanCell (w.alloc o) r p n h :=
  ⟨H.1.alloc o, grown_trans H.2.1 (grown_of_below (below_alloc w o)), H.2.2.alloc o⟩
theorem lit_late (w : World) (L : List Int) (k : Nat) (hk : k < L.length) : (w.alloc (.cells (L.map (Value.int .i64)).toArray 3)).cell? ⟨w.heap.size, k, none⟩ = some (.int .i64 (nth L k)) :=
  IntBlk.cell (heap_alloc_new w _) k hk
theorem lit_list (L : List Int) (k : Nat) (hk : k < L.length) : (L.map (Value.int .i64))[k]? = some (.int .i64 (nth L k)) := by rw [List.getElem?_map, nth_eq hk, List.getElem?_eq_getElem hk]; rfl
theorem lit_early {w w' : World} (L : List Int) {D k : Nat} (hg : (w.alloc (.cells (L.map (Value.int .i64)).toArray 3)).grownBy w' (some D)) (hD : D < w.heap.size) (hk : k < L.length) : w'.cell? ⟨w.heap.size, k, none⟩ = some (.int .i64 (nth L k)) :=
  (grown_cell hg _ _ (by simp) (by omega)).trans (lit_late w L k hk)
theorem enter_next (args : Array Value) (w : World) : (callFunc 12 args).run Tryd.prog w = .ok (.enter 12 args) w :=
  Go.MuLone.run_callFunc_enter Tryd.func12 (by kernel_rfl) rfl args w
theorem step_next {ops : Array Oper} {o : Oper} {a : Act} {K : Act → World → Prop} {Q : Exit → Act → World → Prop} {E : Prop} {D : Nat} {R : List Int} (W : World) (hgd : o.guard = none) (s : Operand) (n : Int)
    (ho : o.op = .call { callee := .value (.func 12), args := #[s, .const (.int .i64 n)], argTypes := #[26, 3] })
    (hs : a.eval s = .pointer (some ⟨D, 0, none⟩)) (hd : DiceAt W D R) (h1 : 1 ≤ n) (hn : n ≤ 4611686018427387904)
    (hK : ∀ (k : Nat) w', (k : Int) < n → DiceAt w' D R.tail → W.grownBy w' (some D) → K (a.put o.dst (.int .i64 (k : Int))) w') :
    if Region.wanted o (yielded ops a.tmps) = true then Oper.wp Tryd.prog o a W K Q else E := by
  refine step_call W hgd _ _ _ ho enter_next #[.pointer (some ⟨D, 0, none⟩), .int .i64 n] (by rw [← hs]; simp [Act.eval]) (next_nat D R n W hd h1 hn) ?_
  rintro e w' ⟨k, rfl, hk, hD, hg⟩
  exact ⟨_, rfl, hK k w' hk hD hg⟩
end Go.Proofs.YtjckpammcgeloaaDoor
namespace Go.Proofs.YtjckpammcgeloaaDoor
open Go.RowKit

theorem RowsI.grow {w W w' : World} {base g c : Nat} {H : List HV} {T : List Shr} (h : RowsI w base (.slice (some ⟨g, 0, none⟩) H.length c) H T) (k : Nat) (hk : k < T.length) (y : Int) (g' cap : Nat) (hW : Below w.heap.size w W)
    (hown : w'.ownsRow base 3 1 (.slice (some ⟨g', 0, none⟩) ((vS T k).length + 1) cap) ((vS T k).length + 1) (valsI (vS T k ++ [y]))) (hg : W.grownBy w' (hvAt H k).2.ownBlock) (hat : (hvAt H k).2.ownBlock = some g' ∨ g' = W.heap.size) :
    RowsI (w'.setCell ⟨g, k * 2 + 1, none⟩ (.slice (some ⟨g', 0, none⟩) ((vS T k).length + 1) cap)) base (.slice (some ⟨g, 0, none⟩) H.length c) (H.set k ((hvAt H k).1, .slice (some ⟨g', 0, none⟩) ((vS T k).length + 1) cap)) (T.set k (hS T k, vS T k ++ [y])) := by
  have hl := h.len
  have hWs := hW.size
  have hgb : ∀ b, (Value.slice (some ⟨g, 0, none⟩) H.length c).ownBlock = some b → b = g := fun b e => (Option.some.inj (show some g = some b from e)).symm
  have hrg : ∀ j, j < T.length → ∀ b, (hvAt H j).2.ownBlock = some b → b ≠ g := fun j hj b e e2 => h.no j hj b e (by rw [e2]; rfl)
  have hW1 := h.below hW
  have hout := hW1.out.kept hg (by
    rcases he : (hvAt H k).2.ownBlock with _ | b
    · exact .inr (fun e => by cases e)
    · exact .inr (fun e => hrg k hk b he (Option.some.inj (show some g = some b from e)).symm))
  have hg'g : g' ≠ g := by
    rcases hat with e | e
    · exact hrg k hk g' e
    · have := (World.ownsRow.lt h.out g rfl).2; omega
  have hTs : ∀ j, j ≠ k → hS (T.set k (hS T k, vS T k ++ [y])) j = hS T j ∧ vS (T.set k (hS T k, vS T k ++ [y])) j = vS T j := fun j hj => by
    simp [hS, vS, List.getD_eq_getElem?_getD, List.getElem?_set_ne (Ne.symm hj)]
  have hTk : hS (T.set k (hS T k, vS T k ++ [y])) k = hS T k ∧ vS (T.set k (hS T k, vS T k ++ [y])) k = vS T k ++ [y] := by
    simp [hS, vS, List.getD_eq_getElem?_getD, hk]
  have hrows : ∀ j, j < T.length → j ≠ k → w'.ownsRow base 3 1 (hvAt H j).2 (vS T j).length (valsI (vS T j)) := fun j hj hjk => (hW1.row j hj).kept hg (by
    rcases he : (hvAt H j).2.ownBlock with _ | b
    · exact .inl rfl
    · exact .inr (fun e => h.ne j k hj hk hjk b he e.symm))
  have hbk : ∀ j, j < T.length → j ≠ k → ∀ b, (hvAt H j).2.ownBlock = some b → b ≠ g' := fun j hj hjk b e e2 => by
    rcases hat with e3 | e3
    · exact h.ne j k hj hk hjk b e (by rw [e3, e2])
    · have := (World.ownsRow.lt (h.row j hj) b e).2; omega
  have hs := hout.set1 k (by omega) (.slice (some ⟨g', 0, none⟩) ((vS T k).length + 1) cap)
  refine ⟨?_, by simp [hl], fun j hj => ?_, fun j hj => ?_, fun i j hi hj hij b e1 e2 => ?_, fun i hi b e1 e2 => ?_⟩
  · exact hs
  · simp only [List.length_set] at hj
    by_cases hjk : j = k
    · subst hjk; rw [hvAt_set_same _ _ _ (by omega), hTk.1]; exact h.hold j hj
    · rw [hvAt_set_other _ _ _ _ (Ne.symm hjk), (hTs j hjk).1]; exact h.hold j hj
  · simp only [List.length_set] at hj
    by_cases hjk : j = k
    · subst hjk
      rw [hvAt_set_same _ _ _ (by omega), hTk.2, List.length_append]
      exact own_other hown _ _ (fun b e => by
        have : g' = b := Option.some.inj (show some g' = some b from e)
        subst this; exact hg'g)
    · rw [hvAt_set_other _ _ _ _ (Ne.symm hjk), (hTs j hjk).2]
      exact own_other (hrows j hj hjk) _ _ (fun b e => hrg j hj b e)
  · simp only [List.length_set] at hi hj
    by_cases hik : i = k
    · subst hik
      rw [hvAt_set_same _ _ _ (by omega)] at e1
      rw [hvAt_set_other _ _ _ _ hij] at e2
      exact hbk j hj (Ne.symm hij) b e2 (Option.some.inj (show some g' = some b from e1)).symm
    · rw [hvAt_set_other _ _ _ _ (Ne.symm hik)] at e1
      by_cases hjk : j = k
      · subst hjk
        rw [hvAt_set_same _ _ _ (by omega)] at e2
        exact hbk i hi hik b e1 (Option.some.inj (show some g' = some b from e2)).symm
      · rw [hvAt_set_other _ _ _ _ (Ne.symm hjk)] at e2
        exact h.ne i j hi hj hij b e1 e2
  · simp only [List.length_set] at hi
    have hb := hgb b (by simpa using e2)
    by_cases hik : i = k
    · subst hik
      rw [hvAt_set_same _ _ _ (by omega)] at e1
      exact hg'g ((Option.some.inj (show some g' = some b from e1)).trans hb)
    · rw [hvAt_set_other _ _ _ _ (Ne.symm hik)] at e1
      exact hrg i hi b e1 hb


theorem step_app_rowI {ops : Array Oper} {o : Oper} {a : Act} {K : Act → World → Prop} {Q : Exit → Act → World → Prop} {E : Prop} (W : World) (hgd : o.guard = none) (s x : Operand)
    (ho : o.op = .call { callee := .builtin .append, args := #[s, x], argTypes := #[22, 22] })
    (w5 : World) (base : Nat) (v : Value) (S : List Int) (y : Int) (hs : a.eval s = v) (hx : a.eval x = .slice (some ⟨w5.heap.size, 0, none⟩) 1 1)
    (hW : W.heap = (w5.alloc (.cells #[.int .i64 y] 3)).heap ∧ W.os = w5.os ∧ W.tape = w5.tape ∧ W.output = w5.output)
    (hown : w5.ownsRow base 3 1 v S.length (valsI S)) (hl : S.length ≤ 4194304) (hbase : base ≤ w5.heap.size)
    (h : ∀ g cap w', w'.ownsRow base 3 1 (.slice (some ⟨g, 0, none⟩) (S.length + 1) cap) (S.length + 1) (valsI (S ++ [y])) → W.grownBy w' v.ownBlock → Below w5.heap.size w5 W → (v.ownBlock = some g ∨ g = W.heap.size) → Below base w5 w' → K (a.put o.dst (.slice (some ⟨g, 0, none⟩) (S.length + 1) cap)) w') :
    if Region.wanted o (yielded ops a.tmps) = true then Oper.wp Tryd.prog o a W K Q else E := by
  obtain ⟨i0, hi, hz0, hz1, hz2⟩ := info_parts info_int
  have hownW : W.ownsRow base 3 1 v S.length (valsI S) := by
    obtain ⟨h1, h2⟩ := own_below hown (below_alloc w5 (.cells #[.int .i64 y] 3))
    refine ⟨h1, ?_⟩
    rw [hW.1]; exact h2
  have hsz : W.heap.size = w5.heap.size + 1 := by rw [hW.1]; simp
  have hcell : ∀ x, W.cell? x = (w5.alloc (.cells #[.int .i64 y] 3)).cell? x := fun x => by unfold World.cell?; rw [hW.1]
  refine step_append_lies _ hgd s x 22 ho base 3 i0 _ 1 8 Tryd.underlying22 hi hz0 hz1 hz2 rfl (by omega) v S.length (valsI S) hs hownW ⟨w5.heap.size, 0, none⟩ 1 1 (valsI [y]) hx rfl (fun j u hu => (hcell _).trans (IntsAt.news (lit_ints w5 [y]) (.inr rfl) j u hu)) (valsI_one [y]) (by omega) (by unfold maxLen; omega) (by omega) (by omega) _ rfl ?_
  intro g cap w' ho' hg hat _
  have hbW : Below w5.heap.size w5 W := ⟨hW.2.1, hW.2.2.1, hW.2.2.2, by omega, fun k hk => by rw [hW.1]; exact heap_alloc_old w5 _ hk⟩
  refine h g cap w' ?_ hg hbW hat ((hbW.mono hbase).trans ((Below.refl _ _).grown hg (by omega) (fun k hk => by have := (hown.lt k hk).1; omega)))
  simpa [valsI] using ho'


theorem sset_at {S : List Shr} {k : Nat} {x : Int} {L : List Int} (hk : k < S.length) : hS (S.set k (x, L)) k = x ∧ vS (S.set k (x, L)) k = L := by
  simp [hS, vS, List.getD_eq_getElem?_getD, hk]
theorem sset_other {S : List Shr} {k j : Nat} {x : Int} {L : List Int} (h : k ≠ j) : hS (S.set k (x, L)) j = hS S j ∧ vS (S.set k (x, L)) j = vS S j := by
  simp [hS, vS, List.getD_eq_getElem?_getD, List.getElem?_set_ne h]
/-- One share's holder is another. -/
theorem RowsI.hold_set {w : World} {base g c : Nat} {H : List HV} {S : List Shr} (h : RowsI w base (.slice (some ⟨g, 0, none⟩) H.length c) H S) (k : Nat) (hk : k < S.length) (x : Int) :
    RowsI (w.setCell ⟨g, k * 2, none⟩ (.int .i64 x)) base (.slice (some ⟨g, 0, none⟩) H.length c) (H.set k (x, (hvAt H k).2)) (S.set k (x, vS S k)) := by
  have hl := h.len
  have hkH : k < H.length := by omega
  have hrg : ∀ j, j < S.length → ∀ b, (hvAt H j).2.ownBlock = some b → b ≠ g := fun j hj b e e2 => h.no j hj b e (by rw [e2]; rfl)
  have h2 : ∀ j, (hvAt (H.set k (x, (hvAt H k).2)) j).2 = (hvAt H j).2 := fun j => by
    by_cases hjk : k = j
    · subst hjk; rw [hvAt_set_same _ _ _ hkH]
    · rw [hvAt_set_other _ _ _ _ hjk]
  have h3 : ∀ j, vS (S.set k (x, vS S k)) j = vS S j := fun j => by
    by_cases hjk : k = j
    · subst hjk; exact (sset_at hk).2
    · exact (sset_other hjk).2
  refine ⟨h.out.set0 k hkH x, by simp [hl], fun j hj => ?_, fun j hj => ?_, fun i j hi hj hij b e1 e2 => ?_, fun i hi b e1 e2 => ?_⟩
  · simp only [List.length_set] at hj
    by_cases hjk : k = j
    · subst hjk; rw [hvAt_set_same _ _ _ hkH, (sset_at hk).1]
    · rw [hvAt_set_other _ _ _ _ hjk, (sset_other hjk).1]; exact h.hold j hj
  · simp only [List.length_set] at hj
    rw [h2, h3]
    exact own_other (h.row j hj) _ _ (fun b e => hrg j hj b e)
  · simp only [List.length_set] at hi hj
    rw [h2] at e1 e2
    exact h.ne i j hi hj hij b e1 e2
  · simp only [List.length_set] at hi
    rw [h2] at e1
    exact h.no i hi b e1 e2
theorem valsI_set (L : List Int) (j : Nat) (y : Int) : (valsI L).set j (.int .i64 y) = valsI (L.set j y) := by simp [valsI, List.map_set]
/-- A row of the own, one of whose numbers is another. -/
theorem own_set {w : World} {base b c n : Nat} {L : List Int} (h : w.ownsRow base 3 1 (.slice (some ⟨b, 0, none⟩) n c) n (valsI L)) (hn : n = L.length) (j : Nat) (hj : j < L.length) (y : Int) :
    (w.setCell ⟨b, j, none⟩ (.int .i64 y)).ownsRow base 3 1 (.slice (some ⟨b, 0, none⟩) n c) n (valsI (L.set j y)) := by
  subst hn
  obtain ⟨h1, h2⟩ := h
  refine ⟨by simp [valsI], ?_⟩
  rcases h2 with ⟨h2, _⟩ | ⟨g, cap, cur, hv, hg, hh, hnc, hcm, hcs, htk⟩
  · cases h2
  · injection hv with e1 e2 e3
    injection e1 with e1
    injection e1 with e1
    subst e1; subst e3
    refine .inr ⟨b, c, cur.setIfInBounds j (.int .i64 y), rfl, hg, by simp [World.setCell, Array.getElem?_modify, hh], hnc, hcm, by simpa using hcs, ?_⟩
    rw [Array.toList_setIfInBounds, List.take_set, htk, valsI_set]
/-- One share's value is another. -/
theorem RowsI.val_set {w : World} {base b c' : Nat} {v : Value} {H : List HV} {S : List Shr} (h : RowsI w base v H S) (k : Nat) (hk : k < S.length) (hb : (hvAt H k).2 = .slice (some ⟨b, 0, none⟩) (vS S k).length c') (h0 : 0 < (vS S k).length) (y : Int) :
    RowsI (w.setCell ⟨b, 0, none⟩ (.int .i64 y)) base v H (S.set k (hS S k, (vS S k).set 0 y)) := by
  have hl := h.len
  have hob : (hvAt H k).2.ownBlock = some b := by rw [hb]; rfl
  have h3 : ∀ j, k ≠ j → hS (S.set k (hS S k, (vS S k).set 0 y)) j = hS S j ∧ vS (S.set k (hS S k, (vS S k).set 0 y)) j = vS S j := fun j hj => sset_other hj
  refine ⟨own_other h.out _ _ (fun b2 e e2 => h.no k hk b hob (by rw [e, e2])), by simp [hl], fun j hj => ?_, fun j hj => ?_, fun i j hi hj hij b e1 e2 => ?_, fun i hi b e1 e2 => ?_⟩
  · simp only [List.length_set] at hj
    by_cases hjk : k = j
    · subst hjk; rw [(sset_at hk).1]; exact h.hold k hk
    · rw [(h3 j hjk).1]; exact h.hold j hj
  · simp only [List.length_set] at hj
    by_cases hjk : k = j
    · subst hjk
      rw [(sset_at hk).2, List.length_set, hb]
      have hr := h.row k hk
      rw [hb] at hr
      exact own_set hr rfl 0 h0 y
    · rw [(h3 j hjk).2]
      exact own_other (h.row j hj) _ _ (fun b2 e e2 => h.ne k j hk hj hjk b hob (by rw [e, e2]))
  · simp only [List.length_set] at hi hj
    exact h.ne i j hi hj hij b e1 e2
  · simp only [List.length_set] at hi
    exact h.no i hi b e1 e2
theorem RowsI.toV {w : World} {base : Nat} {v : Value} {H : List HV} {S : List Shr} (h : RowsI w base v H S) : ∀ k, k < S.length → (hvAt H k).1 = hS S k ∧ ∃ B c, (hvAt H k).2 = .slice B (vS S k).length c ∧ IntsP (fun b => base ≤ b ∧ v.ownBlock ≠ some b) w B c (vS S k) := fun k hk => by
  obtain ⟨B, c', hv, hN, hS', hb⟩ := own_ints (h.row k hk) rfl
  refine ⟨h.hold k hk, B, c', hv, hN, hS', fun b off e => .inr ⟨(hb b off e).1, fun e2 => h.no k hk b ?_ e2⟩⟩
  have hr := h.row k hk
  rw [hv, e] at hr
  rcases hr.2 with ⟨e3, _⟩ | ⟨g, cap, cur, e3, _⟩
  · cases e3
  · injection e3 with e3
    injection e3 with e3
    injection e3 with e3
    rw [hv, e, e3]; rfl
theorem RowsI.rowsV {w : World} {base : Nat} {v : Value} {H : List HV} {S : List Shr} (h : RowsI w base v H S) : RowsV (fun b => base ≤ b) w base v S := ⟨H, h.out, h.len, h.toV⟩
theorem RowsV.val {Q : Nat → Prop} {w : World} {base g n c k : Nat} {L : List Int} {S : List Shr} {B : Option Addr} {c' : Nat} (h : RowsV Q w base (.slice (some ⟨g, 0, none⟩) n c) S) (hn : n = S.length) (hk : k < S.length) (hI : IntsP (fun b => Q b ∧ b ≠ g) w B c' L) :
    RowsV Q (w.setCell ⟨g, k * 2 + 1, none⟩ (.slice B L.length c')) base (.slice (some ⟨g, 0, none⟩) n c) (S.set k (hS S k, L)) := by
  obtain ⟨H, e1, e2, e3⟩ := h.ex
  have hnH : n = H.length := by omega
  subst hnH
  have hkH : k < H.length := by omega
  have hK : Kept (· ≠ g) w (w.setCell ⟨g, k * 2 + 1, none⟩ (.slice B L.length c')) := ⟨by simp [World.setCell], fun b hb _ => Below.heap_setCell w _ _ b hb⟩
  have hob : ∀ b, (Value.slice (some ⟨g, 0, none⟩) H.length c).ownBlock ≠ some b → b ≠ g := fun b hb e => hb (by rw [e]; rfl)
  have hob2 : ∀ b, b ≠ g → (Value.slice (some ⟨g, 0, none⟩) H.length c).ownBlock ≠ some b := fun b hb e => hb (Option.some.inj (show some g = some b from e)).symm
  refine ⟨H.set k ((hvAt H k).1, .slice B L.length c'), e1.set1 k hkH _, by simp [e2], fun j hj => ?_⟩
  simp only [List.length_set] at hj
  obtain ⟨f1, B2, c2, f2, f3⟩ := e3 j hj
  by_cases hjk : k = j
  · subst hjk
    rw [hvAt_set_same _ _ _ hkH, (sset_at hk).1, (sset_at hk).2]
    exact ⟨f1, B, c', rfl, ⟨hI.ints.keep (fun b off e => (hI.off b off e).imp id (fun h => h.2)) hK, hI.ok, fun b off e => (hI.off b off e).imp id (fun h => ⟨h.1, hob2 b h.2⟩)⟩⟩
  · rw [hvAt_set_other _ _ _ _ hjk, (sset_other hjk).1, (sset_other hjk).2]
    exact ⟨f1, B2, c2, f2, ⟨f3.ints.keep (fun b off e => (f3.off b off e).imp id (fun h => hob b h.2)) hK, f3.ok, f3.off⟩⟩
theorem IntsP.drop1 {P : Nat → Prop} {w : World} {b c : Nat} {L : List Int} (h : IntsP P w (some ⟨b, 0, none⟩) c L) (h0 : 0 < L.length) : IntsP P w (if c = 1 then some ⟨b, 0, none⟩ else some ⟨b, 1, none⟩) (c - 1) (L.drop 1) := by
  have hc := h.ok.len
  have hcm := h.ok.cap
  have hl : (L.drop 1).length = L.length - 1 := by simp
  refine ⟨fun k hk => ?_, ⟨by omega, by omega, (fun e => by split at e <;> cases e), .inr (fun a e => by split at e <;> (injection e with e; subst e; rfl))⟩, fun b2 off e => ?_⟩
  · have h1 : c ≠ 1 := by omega
    obtain ⟨b2, off, e, hlt, hcell⟩ := h.ints (k + 1) (by omega)
    injection e with e
    injection e with e1 e2
    subst e1; subst e2
    rw [if_neg h1]
    refine ⟨b, 1, rfl, hlt, ?_⟩
    rw [show 1 + k = 0 + (k + 1) by omega, hcell]
    rw [nth_eq (show k < (L.drop 1).length from hk), nth_eq (show k + 1 < L.length by omega)]
    simp [Nat.add_comm]
  · rcases h.off b 0 rfl with h1 | h1
    · omega
    · refine .inr ?_
      split at e <;> (injection e with e; injection e with e1 e2; subst e1; exact h1)
end Go.Proofs.YtjckpammcgeloaaDoor
namespace Go.Proofs.YtjckpammcgeloaaDoor
open Go.RowKit

/-- All blocks but those of X stand. -/
structure Sav (X : Nat → Prop) (w w' : World) : Prop where
  os : w'.os = w.os
  tape : w'.tape = w.tape
  output : w'.output = w.output
  size : w.heap.size ≤ w'.heap.size
  block : ∀ k, k < w.heap.size → ¬ X k → w'.heap[k]? = w.heap[k]?
theorem Sav.of_below {X : Nat → Prop} {w w' : World} (h : Below w.heap.size w w') : Sav X w w' := ⟨h.os, h.tape, h.output, h.size, fun k hk _ => h.block k hk⟩
theorem Sav.refl (X : Nat → Prop) (w : World) : Sav X w w := ⟨rfl, rfl, rfl, Nat.le_refl _, fun _ _ _ => rfl⟩
theorem Sav.trans {X : Nat → Prop} {w w1 w2 : World} (h1 : Sav X w w1) (h2 : Sav X w1 w2) : Sav X w w2 :=
  ⟨h2.os.trans h1.os, h2.tape.trans h1.tape, h2.output.trans h1.output, Nat.le_trans h1.size h2.size, fun k hk hX => (h2.block k (Nat.lt_of_lt_of_le hk h1.size) hX).trans (h1.block k hk hX)⟩
theorem Sav.mono {X Y : Nat → Prop} {w w' : World} (h : Sav X w w') (hXY : ∀ k, k < w.heap.size → X k → Y k) : Sav Y w w' := ⟨h.os, h.tape, h.output, h.size, fun k hk hY => h.block k hk (fun hX => hY (hXY k hk hX))⟩
/-- Later worlds may turn blocks that came behind w. -/
theorem Sav.trans2 {X Y : Nat → Prop} {w w1 w2 : World} (h1 : Sav X w w1) (h2 : Sav Y w1 w2) (h : ∀ k, Y k → X k ∨ w.heap.size ≤ k) : Sav X w w2 :=
  ⟨h2.os.trans h1.os, h2.tape.trans h1.tape, h2.output.trans h1.output, Nat.le_trans h1.size h2.size, fun k hk hX => (h2.block k (Nat.lt_of_lt_of_le hk h1.size) (fun hY => (h k hY).elim hX (fun h => by omega))).trans (h1.block k hk hX)⟩
theorem Sav.set {X : Nat → Prop} (w : World) (p : Addr) (v : Value) (hX : X p.block) : Sav X w (w.setCell p v) := ⟨rfl, rfl, rfl, by simp [World.setCell], fun k _ hk => Below.heap_setCell w p v k (fun e => hk (e ▸ hX))⟩
theorem Sav.below {X : Nat → Prop} {w w' : World} (h : Sav X w w') (B : Nat) (hB : B ≤ w.heap.size) (hX : ∀ k, k < w.heap.size → X k → B ≤ k) : Below B w w' := ⟨h.os, h.tape, h.output, h.size, fun k hk => h.block k (by omega) (fun hx => by have := hX k (by omega) hx; omega)⟩
theorem Sav.kept {X P : Nat → Prop} {w w' : World} (h : Sav X w w') (hP : ∀ b, P b → ¬ X b) : Kept P w w' := ⟨h.size, fun b hb hlt => h.block b hlt (hP b hb)⟩
theorem Sav.cell {X : Nat → Prop} {w w' : World} (h : Sav X w w') {b o : Nat} (hb : b < w.heap.size) (hX : ¬ X b) : w'.cell? ⟨b, o, none⟩ = w.cell? ⟨b, o, none⟩ := World.cell?_of_block (w := w) (h.block b hb hX)
theorem own_kept {w w' : World} {base : Nat} {e : TypeId} {size : Nat} {v : Value} {n : Nat} {xs : List Value} (h : w.ownsRow base e size v n xs) (hk : ∀ b, v.ownBlock = some b → w'.heap[b]? = w.heap[b]?) : w'.ownsRow base e size v n xs := by
  obtain ⟨h1, h2⟩ := h
  refine ⟨h1, ?_⟩
  rcases h2 with h2 | ⟨g, cap, cur, hv, hgb, hh, r⟩
  · exact .inl h2
  · exact .inr ⟨g, cap, cur, hv, hgb, (hk g (by rw [hv]; rfl)).trans hh, r⟩
theorem own_sav {X : Nat → Prop} {w w' : World} {base : Nat} {e : TypeId} {size : Nat} {v : Value} {n : Nat} {xs : List Value} (h : w.ownsRow base e size v n xs) (hs : Sav X w w') (hX : ∀ b, v.ownBlock = some b → ¬ X b) : w'.ownsRow base e size v n xs :=
  own_kept h fun b e => hs.block b (World.ownsRow.lt h b e).2 (hX b e)
/-- The blocks of a row of shares and of their values. -/
def blkV (v : Value) (H : List HV) (b : Nat) : Prop := v.ownBlock = some b ∨ ∃ k, k < H.length ∧ (hvAt H k).2.ownBlock = some b
theorem RowsI.blk {w : World} {base : Nat} {v : Value} {H : List HV} {S : List Shr} (h : RowsI w base v H S) {b : Nat} (hb : blkV v H b) : base ≤ b ∧ b < w.heap.size := by
  rcases hb with hb | ⟨k, hk, hb⟩
  · exact World.ownsRow.lt h.out b hb
  · exact World.ownsRow.lt (h.row k (by rw [← h.len]; exact hk)) b hb
theorem RowsI.sav {X : Nat → Prop} {w w' : World} {base : Nat} {v : Value} {H : List HV} {S : List Shr} (h : RowsI w base v H S) (hs : Sav X w w') (hX : ∀ b, blkV v H b → ¬ X b) : RowsI w' base v H S :=
  ⟨own_sav h.out hs (fun b e => hX b (.inl e)), h.len, h.hold, fun k hk => own_sav (h.row k hk) hs (fun b e => hX b (.inr ⟨k, by rw [h.len]; exact hk, e⟩)), h.ne, h.no⟩
theorem blkV_set {v : Value} {H : List HV} {k : Nat} {x : Int} {b : Nat} (hk : k < H.length) : blkV v (H.set k (x, (hvAt H k).2)) b ↔ blkV v H b := by
  have h2 : ∀ j, (hvAt (H.set k (x, (hvAt H k).2)) j).2 = (hvAt H j).2 := fun j => by
    by_cases hjk : k = j
    · subst hjk; rw [hvAt_set_same _ _ _ hk]
    · rw [hvAt_set_other _ _ _ _ hjk]
  unfold blkV
  simp only [List.length_set, h2]
/-- The share at cell o of block g, whose numbers are the row v, has the holder x' and the numbers L' now. -/
structure Chg (W w2 : World) (g o base : Nat) (v : Value) (x' : Int) (L' : List Int) : Prop where
  sav : Sav (fun b => b = g ∨ v.ownBlock = some b) W w2
  row : w2.ownsRow base 3 1 v L'.length (valsI L')
  blk : ∀ cs ty m, W.heap[g]? = some (.cells cs ty m) → w2.heap[g]? = some (.cells (cs.setIfInBounds o (.int .i64 x')) ty m)
theorem heap_set_same (W : World) (g o : Nat) (u : Value) (cs : Array Value) (ty : TypeId) (m : Nat × Nat) (h : W.heap[g]? = some (.cells cs ty m)) : (W.setCell ⟨g, o, none⟩ u).heap[g]? = some (.cells (cs.setIfInBounds o u) ty m) := by
  simp [World.setCell, Array.getElem?_modify, h]
theorem RowsI.chg {W w2 : World} {base g c : Nat} {H : List HV} {S : List Shr} {k : Nat} {x' : Int} {L' : List Int} (h : RowsI W base (.slice (some ⟨g, 0, none⟩) H.length c) H S) (hk : k < S.length) (hc : Chg W w2 g (k * 2) base (hvAt H k).2 x' L') :
    RowsI w2 base (.slice (some ⟨g, 0, none⟩) H.length c) (H.set k (x', (hvAt H k).2)) (S.set k (x', L')) := by
  have hl := h.len
  have hkH : k < H.length := by omega
  have hrg : ∀ j, j < S.length → ∀ b, (hvAt H j).2.ownBlock = some b → b ≠ g := fun j hj b e e2 => h.no j hj b e (by rw [e2]; rfl)
  have h2 : ∀ j, (hvAt (H.set k (x', (hvAt H k).2)) j).2 = (hvAt H j).2 := fun j => by
    by_cases hjk : k = j
    · subst hjk; rw [hvAt_set_same _ _ _ hkH]
    · rw [hvAt_set_other _ _ _ _ hjk]
  have hout : HvOwn w2 base (.slice (some ⟨g, 0, none⟩) H.length c) (H.set k (x', (hvAt H k).2)) := by
    refine own_kept (w := W.setCell ⟨g, k * 2, none⟩ (.int .i64 x')) (h.out.set0 k hkH x') fun b e => ?_
    have : g = b := Option.some.inj (show some g = some b from e)
    subst this
    rcases h.out.2 with ⟨h0, _⟩ | ⟨g', cap, cur, hv, hg, hh, -⟩
    · cases h0
    · injection hv with h1 h2 h3
      injection h1 with h1
      injection h1 with h1
      subst h1
      rw [hc.blk _ _ _ hh, heap_set_same _ _ _ _ _ _ _ hh]
  refine ⟨hout, by simp [hl], fun j hj => ?_, fun j hj => ?_, fun i j hi hj hij b e1 e2 => ?_, fun i hi b e1 e2 => ?_⟩
  · simp only [List.length_set] at hj
    by_cases hjk : k = j
    · subst hjk; rw [hvAt_set_same _ _ _ hkH, (sset_at hj).1]
    · rw [hvAt_set_other _ _ _ _ hjk, (sset_other hjk).1]; exact h.hold j hj
  · simp only [List.length_set] at hj
    rw [h2]
    by_cases hjk : k = j
    · subst hjk; rw [(sset_at hj).2]; exact hc.row
    · rw [(sset_other hjk).2]
      refine own_sav (h.row j hj) hc.sav fun b e hb => ?_
      rcases hb with hb | hb
      · exact hrg j hj b e hb
      · exact h.ne k j hk hj hjk b hb e
  · simp only [List.length_set] at hi hj
    rw [h2] at e1 e2
    exact h.ne i j hi hj hij b e1 e2
  · simp only [List.length_set] at hi
    rw [h2] at e1
    exact h.no i hi b e1 e2
/-- A change of the holder alone. -/
theorem Chg.hold {W : World} {g o base : Nat} {v : Value} {L : List Int} (hr : W.ownsRow base 3 1 v L.length (valsI L)) (hg : v.ownBlock ≠ some g) (x' : Int) : Chg W (W.setCell ⟨g, o, none⟩ (.int .i64 x')) g o base v x' L :=
  ⟨Sav.set _ _ _ (.inl rfl), own_other hr _ _ (fun b e e2 => hg (by rw [e, e2])), fun cs ty m hh => heap_set_same _ _ _ _ _ _ _ hh⟩
/-- A change of the numbers alone. -/
theorem Chg.nums {W w2 : World} {g o base : Nat} {v : Value} {L' : List Int} {x : Int} (hs : Sav (fun b => v.ownBlock = some b) W w2) (hr : w2.ownsRow base 3 1 v L'.length (valsI L')) (hg : v.ownBlock ≠ some g) (hgl : g < W.heap.size) (hx : W.cell? ⟨g, o, none⟩ = some (.int .i64 x)) : Chg W w2 g o base v x L' := by
  refine ⟨hs.mono fun k _ hk => .inr hk, hr, fun cs ty m hh => ?_⟩
  rw [hs.block g hgl hg, hh]
  have hcx : cs[o]? = some (.int .i64 x) := by rw [← hx, cell_of_row W g o cs ty m hh]
  have hol : o < cs.size := by
    rcases Nat.lt_or_ge o cs.size with h | h
    · exact h
    · rw [Array.getElem?_eq_none h] at hcx; cases hcx
  have hce : cs[o] = .int .i64 x := by
    have := Array.getElem?_eq_getElem hol
    rw [hcx] at this
    exact (Option.some.inj this).symm
  have e : cs.setIfInBounds o (.int .i64 x) = cs := by
    refine Array.ext (by simp) fun i h1 h2 => ?_
    by_cases hi : o = i
    · subst hi; simp [hce]
    · rw [Array.getElem_setIfInBounds_ne (by simpa using h1) hi]
  rw [e]
end Go.Proofs.YtjckpammcgeloaaDoor
namespace Go.Proofs.YtjckpammcgeloaaDoor
open Go.RowKit

theorem take_snocI (L : List Int) (k : Nat) (h : k < L.length) : L.take (k + 1) = L.take k ++ [nth L k] := take_snoc_getD L k h
set_option maxHeartbeats 400000 in
/-- slices.Equal over numbers. -/
theorem equalInts_any (A A' : Option Addr) (L M : List Int) (c c' : Nat) (w : World) (hL : IntsAt w A L) (hM : IntsAt w A' M) (hl : L.length ≤ 1152921504606846976) :
    Calls Tryd.prog 34 #[.slice A L.length c, .slice A' M.length c'] w (RetB (.bool (sameL L M)) w) := by
  have H1 := Lib.hid hL
  have H2 := Lib.hid hM
  clear hL hM
  by_cases hlen : L.length = M.length
  · have HL := Lib.hid hlen
    have hlM : M.length ≤ L.length := by omega
    have hlM' : L.length ≤ M.length := by omega
    have heq : ((L.length : Int) != (M.length : Int)) = false := by simp [hlen]
    clear hlen
    go_enter Tryd.func34, Tryd.ntmps34
    go_wp2_with fail
    go_loopw [13] (fun i wr => ∃ k : Nat, k ≤ L.length ∧ i = .int .i64 k ∧ L.take k = M.take k ∧ Below w.heap.size w wr) (fun i _ => L.length - (intOf i).toNat)
    case atStart => exact ⟨0, Nat.zero_le _, rfl, rfl, Below.refl _ _⟩
    case round =>
      obtain ⟨k, hk, rfl, hpre, hbr⟩ := hrel
      have HP := Lib.hid hpre
      clear hpre
      by_cases hlt : k < L.length
      · obtain ⟨b, off, rfl, hbl, q1⟩ := (H1.out.below hbr) k hlt
        obtain ⟨b', off', rfl, hbl', r1⟩ := (H2.out.below hbr) k (by omega)
        have hk0 : (0 : Int) ≤ (k : Int) := by omega
        have hkl : (k : Int) < (L.length : Int) := by omega
        have hkm : (k : Int) < (M.length : Int) := by omega
        by_cases e1 : nth L k = nth M k
        · have HT1 := Lib.hid (take_snocI L k hlt)
          have HT2 := Lib.hid (take_snocI M k (by omega))
          have E1 := Lib.hid e1
          have f1 : (nth L k != nth M k) = false := by simp [e1]
          clear e1
          generalize nth L k = t1 at *
          generalize nth M k = t2 at *
          go_wp2_with fail
          go_quiet (fail)
          go_wp2_with fail
          go_roundw
          case rel => exact ⟨k + 1, by omega, by go_num, by rw [HT1.out, HT2.out, HP.out, E1.out], below_drewN hbr _⟩
          case measure => simp [intOf]; omega
        · have HV := Lib.hid (sameL_at k e1)
          have f1 : (nth L k != nth M k) = true := by simp [e1]
          clear e1
          generalize nth L k = t1 at *
          generalize nth M k = t2 at *
          go_wp2_with fail
          go_quiet (fail)
          go_wp2_with fail
          go_ret
          exact RetB.bool HV.out (below_drewN hbr _)
      · have HV := Lib.hid (show true = sameL L M from sameL_all HL.out (by have := HP.out; rw [show k = L.length by omega] at this; exact this))
        go_wp2_with fail
        go_ret
        exact RetB.bool HV.out hbr
  · have HV := Lib.hid (sameL_len hlen)
    have heq : ((L.length : Int) != (M.length : Int)) = true := by simp; omega
    clear hlen
    go_enter Tryd.func34, Tryd.ntmps34
    go_wp2_with fail
    go_ret
    exact RetB.bool HV.out (Below.refl _ _)

/-! ### Shares -/
def eqSh (x y : Int) (L M : List Int) : Bool := decide (x = y) && sameL L M
theorem eqSh_no {x y : Int} {L M : List Int} (h : ¬ x = y) : false = eqSh x y L M := by unfold eqSh; rw [decide_eq_false h]; rfl
theorem eqSh_yes {x y : Int} {L M : List Int} (h : x = y) : sameL L M = eqSh x y L M := by unfold eqSh; rw [decide_eq_true h]; rfl
set_option maxHeartbeats 400000 in
theorem sameShare_any (A A' : Option Addr) (x y : Int) (L M : List Int) (c c' : Nat) (w : World) (hL : IntsAt w A L) (hM : IntsAt w A' M) (hl : L.length ≤ 1152921504606846976) :
    Calls Tryd.prog 31 #[.agg #[.int .i64 x, .slice A L.length c], .agg #[.int .i64 y, .slice A' M.length c']] w (RetB (.bool (eqSh x y L M)) w) := by
  have H1 := Lib.hid hL
  have H2 := Lib.hid hM
  clear hL hM
  by_cases e : x = y
  · have HV := Lib.hid (eqSh_yes (L := L) (M := M) e)
    have f1 : (x == y) = true := by simp [e]
    clear e
    go_enter Tryd.func31, Tryd.ntmps31
    go_wp2_with fail
    refine gen_calls fun w1 hw1 => ?_
    have hb1 : Below w.heap.size w w1 := by rw [hw1]; exact bl_alloc _ (below_alloc _ _)
    clear hw1
    refine ret_below (equalInts_any A A' L M c c' _ (H1.out.below hb1) (H2.out.below hb1) hl) fun w2 hb2 => ?_
    go_wp2_with fail
    go_ret
    exact RetB.bool HV.out (below_trans hb1 hb2)
  · have HV := Lib.hid (eqSh_no (L := L) (M := M) e)
    have f1 : (x == y) = false := by simp [e]
    clear e
    go_enter Tryd.func31, Tryd.ntmps31
    go_wp2_with fail
    go_ret
    exact RetB.bool HV.out (bl_alloc _ (below_alloc _ _))
theorem enter_sameShare (args : Array Value) (w : World) : (callFunc 31 args).run Tryd.prog w = .ok (.enter 31 args) w :=
  Go.MuLone.run_callFunc_enter Tryd.func31 (by kernel_rfl) rfl args w

noncomputable def eqShs (S T : List Shr) : Bool := @decide (S = T) (Classical.propDecidable _)
theorem eqShs_len {S T : List Shr} (h : S.length ≠ T.length) : false = eqShs S T := (@decide_eq_false _ (Classical.propDecidable _) (fun e => h (by rw [e]))).symm
theorem eqShs_at {S T : List Shr} (k : Nat) (h : eqSh (hS S k) (hS T k) (vS S k) (vS T k) = false) : false = eqShs S T := (@decide_eq_false _ (Classical.propDecidable _) (fun e => by
  subst e
  unfold eqSh sameL at h
  simp at h)).symm
theorem eqShs_all {S T : List Shr} (hl : S.length = T.length) (h : ∀ k, k < S.length → eqSh (hS S k) (hS T k) (vS S k) (vS T k) = true) : true = eqShs S T := by
  refine (@decide_eq_true _ (Classical.propDecidable _) ?_).symm
  refine List.ext_getElem hl fun k h1 h2 => ?_
  rw [shr_at h1, shr_at h2]
  have := h k h1
  unfold eqSh sameL at this
  rw [Bool.and_eq_true, decide_eq_true_eq, decide_eq_true_eq] at this
  rw [this.1, this.2]
theorem eqShs_refl (S : List Shr) : eqShs S S = true := @decide_eq_true _ (Classical.propDecidable _) rfl
theorem eqShs_iff {S T : List Shr} : eqShs S T = true ↔ S = T := @decide_eq_true_iff _ (Classical.propDecidable _)

set_option maxRecDepth 100000 in
set_option maxHeartbeats 1000000 in
theorem equalShs_any {P P' : Nat → Prop} (A A' : Option Addr) (S T : List Shr) (c c' : Nat) (w : World) (hA : ShP P w A c S) (hA' : ShP P' w A' c' T) (hsh : Short S) (hl : S.length ≤ 1048576) :
    Calls Tryd.prog 51 #[.slice A S.length c, .slice A' T.length c', .func (.func 31) #[] #[]] w (RetB (.bool (eqShs S T)) w) := by
  have H1 := Lib.hid hA
  have H2 := Lib.hid hA'
  have HSH := Lib.hid hsh
  clear hA hA' hsh
  by_cases hlen : S.length = T.length
  · have HL := Lib.hid hlen
    have hlM : T.length ≤ S.length := by omega
    have hlM' : S.length ≤ T.length := by omega
    have heq : ((S.length : Int) != (T.length : Int)) = false := by simp [hlen]
    clear hlen
    go_enter Tryd.func51, Tryd.ntmps51
    go_wp2_with fail
    go_loopw [17] (fun i wr => ∃ k : Nat, k ≤ S.length ∧ i = .int .i64 k ∧ (∀ j, j < k → eqSh (hS S j) (hS T j) (vS S j) (vS T j) = true) ∧ Below w.heap.size w wr) (fun i _ => S.length - (intOf i).toNat)
    case atStart => exact ⟨0, Nat.zero_le _, rfl, fun j hj => absurd hj (by omega), Below.refl _ _⟩
    case round =>
      obtain ⟨k, hk, rfl, hpre, hbr⟩ := hrel
      have HP := Lib.hid hpre
      clear hpre
      by_cases hlt : k < S.length
      · obtain ⟨b, off, B, c1, rfl, hb, -, x0, x1, x2⟩ := (H1.out.below hbr).at_ k hlt
        obtain ⟨b', off', B', c1', rfl, hb', -, y0, y1, y2⟩ := (H2.out.below hbr).at_ k (by omega)
        have hvl := HSH.out k hlt
        have hk0 : (0 : Int) ≤ (k : Int) := by omega
        have hkl : (k : Int) < (S.length : Int) := by omega
        have hkm : (k : Int) < (T.length : Int) := by omega
        have HN := Lib.hid (fun h => eqShs_at (S := S) (T := T) k h)
        have X2 := Lib.hid x2
        have Y2 := Lib.hid y2
        clear x2 y2
        generalize hx : hS S k = x at *
        generalize hL : vS S k = L at *
        generalize hy : hS T k = y at *
        generalize hM : vS T k = M at *
        have HX := Lib.hid (And.intro hx (And.intro hL (And.intro hy hM)))
        clear hx hL hy hM
        go_wp2_with fail
        refine gen_calls fun w1 hw1 => ?_
        have hb1 : Below wr.heap.size wr w1 := by rw [hw1]; exact bl_alloc _ (below_alloc _ _)
        clear hw1
        refine ret_below (sameShare_any B B' x y L M c1 c1' _ (X2.out.keep (Kept.below hb1)).ints (Y2.out.keep (Kept.below hb1)).ints (by omega)) fun w2 hb2 => ?_
        have hbw : Below w.heap.size w w2 := below_trans hbr (below_trans hb1 hb2)
        cases hq : eqSh x y L M with
        | true =>
          have HQ := Lib.hid hq
          clear hq
          go_wp2_with fail
          go_roundw
          case rel =>
            refine ⟨k + 1, by omega, by go_num, fun j hj => ?_, hbw⟩
            by_cases hjk : j = k
            · subst hjk; rw [HX.out.1, HX.out.2.1, HX.out.2.2.1, HX.out.2.2.2]; exact HQ.out
            · exact HP.out j (by omega)
          case measure => simp [intOf]; omega
        | false =>
          have HV := Lib.hid (HN.out (by first | exact hq | (rw [HX.out.1, HX.out.2.1, HX.out.2.2.1, HX.out.2.2.2]; exact hq)))
          clear hq
          go_wp2_with fail
          go_ret
          exact RetB.bool HV.out hbw
      · have HV := Lib.hid (eqShs_all HL.out (fun j hj => HP.out j (by omega)))
        go_wp2_with fail
        go_ret
        exact RetB.bool HV.out hbr
  · have HV := Lib.hid (eqShs_len hlen)
    have heq : ((S.length : Int) != (T.length : Int)) = true := by simp; omega
    clear hlen
    go_enter Tryd.func51, Tryd.ntmps51
    go_wp2_with fail
    go_ret
    exact RetB.bool HV.out (Below.refl _ _)

set_option maxRecDepth 100000 in
set_option maxHeartbeats 1000000 in
/-- slices of shares, compared by the program. -/
theorem sameShares_any {P P' : Nat → Prop} (A A' : Option Addr) (S T : List Shr) (c c' : Nat) (w : World) (hA : ShP P w A c S) (hA' : ShP P' w A' c' T) (hsh : Short S) (hl : S.length ≤ 1048576) :
    Calls Tryd.prog 30 #[.slice A S.length c, .slice A' T.length c'] w (RetB (.bool (eqShs S T)) w) := by
  have HC := Lib.hid (equalShs_any A A' S T c c' w hA hA' hsh hl)
  clear hA hA' hsh
  go_enter Tryd.func30, Tryd.ntmps30
  go_wp2_with fail
  refine ret_below HC.out fun w1 hb1 => ?_
  go_wp2_with fail
  go_ret
  exact RetB.bool rfl hb1

set_option maxRecDepth 100000 in
set_option maxHeartbeats 4000000 in
/-- Lists of shares, compared by the document. -/
theorem refSame_any {P P' : Nat → Prop} (A A' : Option Addr) (S T : List Shr) (c c' : Nat) (w : World) (hA : ShP P w A c S) (hA' : ShP P' w A' c' T) (hsh : Short S) (hl : S.length ≤ 1048576) :
    Calls Tryd.prog 24 #[.slice A S.length c, .slice A' T.length c'] w (RetB (.bool (eqShs S T)) w) := by
  have HA := Lib.hid hA
  have HA' := Lib.hid hA'
  have HSH := Lib.hid hsh
  clear hA hA' hsh
  by_cases hlen : S.length = T.length
  · have HL := Lib.hid hlen
    have hlM : T.length ≤ S.length := by omega
    have hlM' : S.length ≤ T.length := by omega
    have t0 : ((S.length : Int) != (T.length : Int)) = false := by simp [hlen]
    clear hlen
    go_enter Tryd.func24, Tryd.ntmps24
    go_wp2_with fail
    go_loopw [14] (fun i wr => ∃ k : Nat, k ≤ S.length ∧ i = .int .i64 k ∧ (∀ j, j < k → eqSh (hS S j) (hS T j) (vS S j) (vS T j) = true) ∧ Below w.heap.size w wr) (fun i _ => S.length - (intOf i).toNat)
    case atStart => exact ⟨0, Nat.zero_le _, rfl, fun j hj => absurd hj (by omega), Below.refl _ _⟩
    case round =>
      obtain ⟨k, hk, rfl, hpre, hbr⟩ := hrel
      have HP := Lib.hid hpre
      clear hpre
      by_cases hlt : k < S.length
      · obtain ⟨b, off, B, c1, rfl, hb, -, x0, x1, x2⟩ := (HA.out.below hbr).at_ k hlt
        obtain ⟨b', off', B', c1', rfl, hb', -, y0, y1, y2⟩ := (HA'.out.below hbr).at_ k (by omega)
        have hvl := HSH.out k hlt
        have i1 : (0 : Int) ≤ (k : Int) := by omega
        have i2 : (k : Int) < (S.length : Int) := by omega
        have i3 : (k : Int) < (T.length : Int) := by omega
        have HN := Lib.hid (fun h => eqShs_at (S := S) (T := T) k h)
        have HX := Lib.hid x2
        have HY := Lib.hid y2
        clear x2 y2
        generalize hx : hS S k = x at *
        generalize hL : vS S k = L at *
        generalize hy : hS T k = y at *
        generalize hM : vS T k = M at *
        have HE := Lib.hid (And.intro hx (And.intro hL (And.intro hy hM)))
        clear hx hL hy hM
        by_cases hxy : x = y
        · have HQ := Lib.hid (eqSh_yes (L := L) (M := M) hxy)
          have t1 : (x != y) = false := by simp [hxy]
          clear hxy
          go_wp2_with fail
          refine gen_world fun w1 hw1 => ?_
          have hb1 : Below wr.heap.size wr w1 := by rw [hw1]; exact below_alloc _ _
          have hsc : ShCell w1 wr.heap.size x (.slice B L.length c1) := by rw [hw1]; exact ShCell.new _ _ rfl
          have s0 := hsc.c0
          have s1 := hsc.c1
          have z0 := (hb1.cell (p := ⟨b', off' + k * 2, none⟩) hb').trans y0
          have z1 := (hb1.cell (p := ⟨b', off' + k * 2 + 1, none⟩) hb').trans y1
          have HX1 := Lib.hid ((HX.out.keep (Kept.below hb1)).ints)
          have HY1 := Lib.hid ((HY.out.keep (Kept.below hb1)).ints)
          have hbw := below_trans hbr hb1
          clear hw1 hsc x0 x1 y0 y1
          go_quiet ((go_at_call 42; exact Calls.quiet_of_same (same_any B B' L M c1 c1' _ HX1.out HY1.out (by omega))))
          cases hq : sameL L M with
          | true =>
            have HQ2 := Lib.hid (HQ.out.symm.trans hq)
            clear hq
            go_wp2_with fail
            go_roundw
            case rel =>
              refine ⟨k + 1, by omega, by go_num, fun j hj => ?_, below_drewN hbw _⟩
              by_cases hjk : j = k
              · subst hjk; rw [HE.out.1, HE.out.2.1, HE.out.2.2.1, HE.out.2.2.2]; exact HQ2.out
              · exact HP.out j (by omega)
            case measure => simp [intOf]; omega
          | false =>
            have HV := Lib.hid (HN.out (HQ.out.symm.trans hq))
            clear hq
            go_wp2_with fail
            go_ret
            exact RetB.bool HV.out (below_drewN hbw _)
        · have HV := Lib.hid (HN.out (eqSh_no (L := L) (M := M) hxy).symm)
          have t1 : (x != y) = true := by simp [hxy]
          clear hxy
          go_wp2_with fail
          refine gen_world fun w1 hw1 => ?_
          have hb1 : Below wr.heap.size wr w1 := by rw [hw1]; exact below_alloc _ _
          have hsc : ShCell w1 wr.heap.size x (.slice B L.length c1) := by rw [hw1]; exact ShCell.new _ _ rfl
          have s0 := hsc.c0
          have s1 := hsc.c1
          have z0 := (hb1.cell (p := ⟨b', off' + k * 2, none⟩) hb').trans y0
          have z1 := (hb1.cell (p := ⟨b', off' + k * 2 + 1, none⟩) hb').trans y1
          have hbw := below_trans hbr hb1
          clear hw1 hsc x0 x1 y0 y1
          go_quiet (fail)
          go_wp2_with fail
          go_ret
          exact RetB.bool HV.out (below_drewN hbw _)
      · have HV := Lib.hid (eqShs_all HL.out (fun j hj => HP.out j (by omega)))
        go_wp2_with fail
        go_ret
        exact RetB.bool HV.out hbr
  · have HV := Lib.hid (eqShs_len hlen)
    have t0 : ((S.length : Int) != (T.length : Int)) = true := by simp; omega
    clear hlen
    go_enter Tryd.func24, Tryd.ntmps24
    go_wp2_with fail
    go_ret
    exact RetB.bool HV.out (Below.refl _ _)
end Go.Proofs.YtjckpammcgeloaaDoor
namespace Go.Proofs.YtjckpammcgeloaaDoor
open Go.RowKit
def inI (n lo hi : Int) : Bool := decide (lo ≤ n ∧ n ≤ hi)
theorem inI_lo {n lo hi : Int} (h : ¬ lo ≤ n) : false = inI n lo hi := by unfold inI; exact (decide_eq_false (fun h1 => h h1.1)).symm
theorem inI_hi {n lo hi : Int} (h : lo ≤ n) : decide (n ≤ hi) = inI n lo hi := by unfold inI; simp [h]
theorem inI_of {n lo hi : Int} (h : inI n lo hi = true) : lo ≤ n ∧ n ≤ hi := of_decide_eq_true h
theorem inI_no {n lo hi : Int} (h : inI n lo hi = false) : ¬ (lo ≤ n ∧ n ≤ hi) := of_decide_eq_false h
theorem in_any (n lo hi : Int) (w : World) :
    Calls Tryd.prog 44 #[.int .i64 n, .int .i64 lo, .int .i64 hi] w (Ret (.bool (inI n lo hi)) w) := by
  by_cases h : lo ≤ n
  · have HV := Lib.hid (inI_hi (hi := hi) h)
    go_enter Tryd.func44, Tryd.ntmps44
    go_wp2_with fail
    go_ret
    exact Ret.bool HV.out
  · have HV := Lib.hid (inI_lo (hi := hi) h)
    go_enter Tryd.func44, Tryd.ntmps44
    go_wp2_with fail
    go_ret
    exact Ret.bool HV.out
theorem in_yes (n lo hi : Int) (h : inI n lo hi = true) (w : World) :
    Calls Tryd.prog 44 #[.int .i64 n, .int .i64 lo, .int .i64 hi] w (Ret (.bool true) w) := by
  have := in_any n lo hi w
  rwa [h] at this
theorem in_no (n lo hi : Int) (h : inI n lo hi = false) (w : World) :
    Calls Tryd.prog 44 #[.int .i64 n, .int .i64 lo, .int .i64 hi] w (Ret (.bool false) w) := by
  have := in_any n lo hi w
  rwa [h] at this
end Go.Proofs.YtjckpammcgeloaaDoor
namespace Go.Proofs.YtjckpammcgeloaaDoor
open Go.RowKit

theorem info_gift : (Tryd.prog.info? 37).map (fun i => (i.zero, i.size, i.bytes)) = some (some (.agg #[.int .i64 0, .slice none 0 0, .slice none 0 0, .int .i64 0, .slice none 0 0]), 5, 88) := by kernel_rfl
abbrev giftV (h : Int) (b v : Value) (kh : Int) (kv : Value) : Value := .agg #[.int .i64 h, b, v, .int .i64 kh, kv]
abbrev lieV (h k b : Int) : Value := .agg #[.int .i64 h, .int .i64 k, .int .i64 b]
def GiftCell (w : World) (x : Nat) (h : Int) (b v : Value) (kh : Int) (kv : Value) : Prop := w.heap[x]? = some (.cells #[.int .i64 h, b, v, .int .i64 kh, kv] 37 (0, 0))
section
variable {w w' : World} {x : Nat} {h kh : Int} {b v kv : Value}
theorem GiftCell.c0 (H : GiftCell w x h b v kh kv) : w.cell? ⟨x, 0, none⟩ = some (.int .i64 h) := by rw [cell_of_row w x 0 _ _ (0, 0) H]; rfl
theorem GiftCell.c1 (H : GiftCell w x h b v kh kv) : w.cell? ⟨x, 1, none⟩ = some (b) := by rw [cell_of_row w x 1 _ _ (0, 0) H]; rfl
theorem GiftCell.c2 (H : GiftCell w x h b v kh kv) : w.cell? ⟨x, 2, none⟩ = some (v) := by rw [cell_of_row w x 2 _ _ (0, 0) H]; rfl
theorem GiftCell.c3 (H : GiftCell w x h b v kh kv) : w.cell? ⟨x, 3, none⟩ = some (.int .i64 kh) := by rw [cell_of_row w x 3 _ _ (0, 0) H]; rfl
theorem GiftCell.c4 (H : GiftCell w x h b v kh kv) : w.cell? ⟨x, 4, none⟩ = some (kv) := by rw [cell_of_row w x 4 _ _ (0, 0) H]; rfl
theorem GiftCell.frozen (H : GiftCell w x h b v kh kv) (j : Nat) : w.frozen? ⟨x, j, none⟩ = false := by unfold GiftCell at H; simp [World.frozen?, H]
theorem GiftCell.lt (H : GiftCell w x h b v kh kv) : x < w.heap.size := blk_lt H
theorem GiftCell.below (H : GiftCell w x h b v kh kv) (hb : Below w.heap.size w w') : GiftCell w' x h b v kh kv := (hb.block x (blk_lt H)).trans H
theorem GiftCell.keep (H : GiftCell w x h b v kh kv) (hb : w'.heap[x]? = w.heap[x]?) : GiftCell w' x h b v kh kv := hb.trans H
theorem GiftCell.new {i : Nat} (h : Int) (b v : Value) (kh : Int) (kv : Value) (hi : i = w.heap.size) : GiftCell (w.alloc (.cells #[.int .i64 h, b, v, .int .i64 kh, kv] 37)) i h b v kh kv := by subst hi; exact heap_alloc_new w _
theorem GiftCell.alloc (H : GiftCell w x h b v kh kv) (o : Obj) : GiftCell (w.alloc o) x h b v kh kv := H.below (below_alloc w o)
theorem GiftCell.other (H : GiftCell w x h b v kh kv) (q : Addr) (u : Value) (hq : x ≠ q.block) : GiftCell (w.setCell q u) x h b v kh kv := (Below.heap_setCell w q u x hq).trans H
theorem GiftCell.fill (H : GiftCell w x h b v kh kv) (h2 : Int) (b2 v2 : Value) (kh2 : Int) (kv2 : Value) :
    GiftCell (((((w.setCell ⟨x, 0, none⟩ (.int .i64 h2)).setCell ⟨x, 1, none⟩ b2).setCell ⟨x, 2, none⟩ v2).setCell ⟨x, 3, none⟩ (.int .i64 kh2)).setCell ⟨x, 4, none⟩ kv2) x h2 b2 v2 kh2 kv2 := by
  unfold GiftCell at H ⊢; simp [World.setCell, Array.getElem?_modify, H]
end
def LieCell (w : World) (x : Nat) (h k b : Int) : Prop := w.heap[x]? = some (.cells #[.int .i64 h, .int .i64 k, .int .i64 b] 42 (0, 0))
section
variable {w w' : World} {x : Nat} {h k b : Int}
theorem LieCell.c0 (H : LieCell w x h k b) : w.cell? ⟨x, 0, none⟩ = some (.int .i64 h) := by rw [cell_of_row w x 0 _ _ (0, 0) H]; rfl
theorem LieCell.c1 (H : LieCell w x h k b) : w.cell? ⟨x, 1, none⟩ = some (.int .i64 k) := by rw [cell_of_row w x 1 _ _ (0, 0) H]; rfl
theorem LieCell.c2 (H : LieCell w x h k b) : w.cell? ⟨x, 2, none⟩ = some (.int .i64 b) := by rw [cell_of_row w x 2 _ _ (0, 0) H]; rfl
theorem LieCell.lt (H : LieCell w x h k b) : x < w.heap.size := blk_lt H
theorem LieCell.below (H : LieCell w x h k b) (hb : Below w.heap.size w w') : LieCell w' x h k b := (hb.block x (blk_lt H)).trans H
theorem LieCell.keep (H : LieCell w x h k b) (hb : w'.heap[x]? = w.heap[x]?) : LieCell w' x h k b := hb.trans H
theorem LieCell.new {i : Nat} (h k b : Int) (hi : i = w.heap.size) : LieCell (w.alloc (.cells #[.int .i64 h, .int .i64 k, .int .i64 b] 42)) i h k b := by subst hi; exact heap_alloc_new w _
end

/-- A gift: what it says. -/
structure GiftD where
  h : Int
  bx : List Shr
  wh : List Shr
  kh : Int
  kv : List Int
/-- A value that is a gift; the blocks that its parts lie in satisfy P. -/
def GiftR (P : Nat → Prop) (w : World) (v : Value) (G : GiftD) : Prop :=
  ∃ A ca B cb C cc, v = giftV G.h (.slice A G.bx.length ca) (.slice B G.wh.length cb) G.kh (.slice C G.kv.length cc) ∧ ShP P w A ca G.bx ∧ ShP P w B cb G.wh ∧ IntsP P w C cc G.kv
theorem GiftR.keep {P : Nat → Prop} {w w' : World} {v : Value} {G : GiftD} (h : GiftR P w v G) (hk : Kept P w w') : GiftR P w' v G := by
  obtain ⟨A, ca, B, cb, C, cc, e, h1, h2, h3⟩ := h
  exact ⟨A, ca, B, cb, C, cc, e, h1.keep hk, h2.keep hk, h3.keep hk⟩
theorem GiftR.below {P : Nat → Prop} {w w' : World} {v : Value} {G : GiftD} (h : GiftR P w v G) (hb : Below w.heap.size w w') : GiftR P w' v G := h.keep (Kept.below hb)
theorem GiftR.mono {P Q : Nat → Prop} {w : World} {v : Value} {G : GiftD} (h : GiftR P w v G) (hPQ : ∀ b, b < w.heap.size → P b → Q b) : GiftR Q w v G := by
  obtain ⟨A, ca, B, cb, C, cc, e, h1, h2, h3⟩ := h
  exact ⟨A, ca, B, cb, C, cc, e, h1.mono hPQ, h2.mono hPQ, h3.mono hPQ⟩
/-- Gifts of few shares. -/
structure GSmall (G : GiftD) : Prop where
  b : Short G.bx
  w : Short G.wh
  k : G.kv.length ≤ 1048576
  bl : G.bx.length ≤ 10000
  wl : G.wh.length ≤ 10000
noncomputable def eqG (G K : GiftD) : Bool := @decide (G = K) (Classical.propDecidable _)
theorem eqG_no {G K : GiftD} (h : G ≠ K) : false = eqG G K := (@decide_eq_false _ (Classical.propDecidable _) h).symm
theorem eqG_refl (G : GiftD) : eqG G G = true := @decide_eq_true _ (Classical.propDecidable _) rfl
theorem eqG_iff {G K : GiftD} : eqG G K = true ↔ G = K := @decide_eq_true_iff _ (Classical.propDecidable _)
theorem eqG_h {G K : GiftD} (h : ¬ G.h = K.h) : false = eqG G K := eqG_no (fun e => h (by rw [e]))
theorem eqG_b {G K : GiftD} (h : eqShs G.bx K.bx = false) : false = eqG G K := eqG_no (fun e => by rw [e, eqShs_refl] at h; cases h)
theorem eqG_w {G K : GiftD} (h : eqShs G.wh K.wh = false) : false = eqG G K := eqG_no (fun e => by rw [e, eqShs_refl] at h; cases h)
theorem eqG_k {G K : GiftD} (h1 : G.h = K.h) (h2 : eqShs G.bx K.bx = true) (h3 : eqShs G.wh K.wh = true) : eqSh G.kh K.kh G.kv K.kv = eqG G K := by
  rw [eqShs_iff] at h2 h3
  cases hq : eqSh G.kh K.kh G.kv K.kv with
  | true =>
    unfold eqSh sameL at hq
    rw [Bool.and_eq_true, decide_eq_true_eq, decide_eq_true_eq] at hq
    refine (eqG_iff.2 ?_).symm
    cases G; cases K
    simp only at h1 h2 h3 hq
    rw [h1, h2, h3, hq.1, hq.2]
  | false => exact eqG_no (fun e => by rw [e] at hq; unfold eqSh sameL at hq; simp at hq)
theorem eqShs_one {x y : Int} {L M : List Int} : eqShs [(x, L)] [(y, M)] = eqSh x y L M := by
  cases hq : eqSh x y L M with
  | true =>
    unfold eqSh sameL at hq
    rw [Bool.and_eq_true, decide_eq_true_eq, decide_eq_true_eq] at hq
    rw [eqShs_iff, hq.1, hq.2]
  | false =>
    refine (eqShs_at (S := [(x, L)]) (T := [(y, M)]) 0 hq).symm
theorem short_one' {x : Int} {L : List Int} (h : L.length ≤ 1048576) : Short [(x, L)] := fun k hk => by
  have : k = 0 := by simp at hk; omega
  subst this; exact h
/-- A literal of one share. -/
theorem lit_one {P : Nat → Prop} {w : World} {g : Nat} {x : Int} {B : Option Addr} {c : Nat} {L : List Int} (hg : w.heap[g]? = some (.cells #[.int .i64 x, .slice B L.length c] 35 (0, 0))) (hP : P g) (hI : IntsP P w B c L) : ShP P w (some ⟨g, 0, none⟩) 1 [(x, L)] := by
  refine ⟨fun k hk => ?_, ⟨by simp, by unfold maxLen; omega, (fun e => by cases e), .inr (fun a e => by injection e with e; subst e; rfl)⟩⟩
  have : k = 0 := by simp at hk; omega
  subst this
  refine ⟨g, 0, B, c, rfl, blk_lt hg, hP, ?_, ?_, hI⟩
  · rw [cell_of_row w g (0 + 0 * 2) _ _ (0, 0) hg]; rfl
  · rw [cell_of_row w g (0 + 0 * 2 + 1) _ _ (0, 0) hg]; rfl

set_option maxRecDepth 100000 in
set_option maxHeartbeats 4000000 in
theorem same_gift {P P' : Nat → Prop} (u v : Value) (G K : GiftD) (w : World) (hG : GiftR P w u G) (hK : GiftR P' w v K) (sG : GSmall G) :
    Calls Tryd.prog 17 #[u, v] w (RetB (.bool (eqG G K)) w) := by
  obtain ⟨A, ca, B, cb, C, cc, rfl, h1, h2, h3⟩ := hG
  obtain ⟨A', ca', B', cb', C', cc', rfl, k1, k2, k3⟩ := hK
  obtain ⟨s1, s2, s3, s4, s5⟩ := sG
  have D1 := Lib.hid (fun (W : World) (hb : Below w.heap.size w W) => sameShares_any A A' G.bx K.bx ca ca' W (h1.below hb) (k1.below hb) s1 (by omega))
  have D2 := Lib.hid (fun (W : World) (hb : Below w.heap.size w W) => sameShares_any B B' G.wh K.wh cb cb' W (h2.below hb) (k2.below hb) s2 (by omega))
  have D3 := Lib.hid (fun (W : World) (hb : Below w.heap.size w W) => sameShare_any C C' G.kh K.kh G.kv K.kv cc cc' W (h3.keep (Kept.below hb)).ints (k3.keep (Kept.below hb)).ints (by omega))
  have E0 := Lib.hid (fun h => eqG_h (G := G) (K := K) h)
  have E1 := Lib.hid (fun h => eqG_b (G := G) (K := K) h)
  have E2 := Lib.hid (fun h => eqG_w (G := G) (K := K) h)
  have E3 := Lib.hid (fun h1 h2 h3 => eqG_k (G := G) (K := K) h1 h2 h3)
  clear h1 h2 h3 k1 k2 k3 s1 s2
  generalize hq : eqG G K = q at *
  clear hq
  obtain ⟨gh, gb, gw, gkh, gkv⟩ := G
  obtain ⟨kh, kb, kw, kkh, kkv⟩ := K
  simp only at *
  have HB := Lib.hid (Below.refl w.heap.size w)
  by_cases e0 : gh = kh
  · have f0 : (gh == kh) = true := by simp [e0]
    have E3' := Lib.hid (E3.out e0)
    clear e0
    cases q1 : eqShs gb kb with
    | false =>
      have HV := Lib.hid (E1.out q1)
      rw [q1] at D1
      clear q1
      go_enter Tryd.func17, Tryd.ntmps17
      go_wp2_with fail
      refine gen_calls fun w1 hw1 => ?_
      have c1 : GiftCell w1 w.heap.size gh (.slice A gb.length ca) (.slice B gw.length cb) gkh (.slice C gkv.length cc) := by rw [hw1]; exact (GiftCell.new _ _ _ _ _ rfl).alloc _
      have c2 : GiftCell w1 (w.heap.size + 1) kh (.slice A' kb.length ca') (.slice B' kw.length cb') kkh (.slice C' kkv.length cc') := by rw [hw1]; exact GiftCell.new _ _ _ _ _ (by simp)
      have hb1 : Below w.heap.size w w1 := by rw [hw1]; exact bl_alloc _ (below_alloc _ _)
      clear hw1
      refine ret_below (D1.out _ hb1) fun w2 hb2 => ?_
      go_wp2_with fail
      go_ret
      exact RetB.bool HV.out (below_trans hb1 hb2)
    | true =>
      rw [q1] at D1
      cases q2 : eqShs gw kw with
      | false =>
        have HV := Lib.hid (E2.out q2)
        rw [q2] at D2
        clear q1 q2
        go_enter Tryd.func17, Tryd.ntmps17
        go_wp2_with fail
        refine gen_calls fun w1 hw1 => ?_
        have c1 : GiftCell w1 w.heap.size gh (.slice A gb.length ca) (.slice B gw.length cb) gkh (.slice C gkv.length cc) := by rw [hw1]; exact (GiftCell.new _ _ _ _ _ rfl).alloc _
        have c2 : GiftCell w1 (w.heap.size + 1) kh (.slice A' kb.length ca') (.slice B' kw.length cb') kkh (.slice C' kkv.length cc') := by rw [hw1]; exact GiftCell.new _ _ _ _ _ (by simp)
        have hb1 : Below w.heap.size w w1 := by rw [hw1]; exact bl_alloc _ (below_alloc _ _)
        clear hw1
        refine ret_below (D1.out _ hb1) fun w2 hb2 => ?_
        have hb12 := below_trans hb1 hb2
        have x2 := (c1.below hb2).c2
        have y2 := (c2.below hb2).c2
        clear c1 c2
        go_wp2_with fail
        refine ret_below (D2.out _ hb12) fun w3 hb3 => ?_
        go_wp2_with fail
        go_ret
        exact RetB.bool HV.out (below_trans hb12 hb3)
      | true =>
        have HV := Lib.hid (E3'.out q1 q2)
        rw [q2] at D2
        clear q1 q2
        go_enter Tryd.func17, Tryd.ntmps17
        go_wp2_with fail
        refine gen_calls fun w1 hw1 => ?_
        have c1 : GiftCell w1 w.heap.size gh (.slice A gb.length ca) (.slice B gw.length cb) gkh (.slice C gkv.length cc) := by rw [hw1]; exact (GiftCell.new _ _ _ _ _ rfl).alloc _
        have c2 : GiftCell w1 (w.heap.size + 1) kh (.slice A' kb.length ca') (.slice B' kw.length cb') kkh (.slice C' kkv.length cc') := by rw [hw1]; exact GiftCell.new _ _ _ _ _ (by simp)
        have hb1 : Below w.heap.size w w1 := by rw [hw1]; exact bl_alloc _ (below_alloc _ _)
        clear hw1
        refine ret_below (D1.out _ hb1) fun w2 hb2 => ?_
        have hb12 := below_trans hb1 hb2
        have C1 := Lib.hid (c1.below hb2)
        have C2 := Lib.hid (c2.below hb2)
        have x2 := C1.out.c2
        have y2 := C2.out.c2
        clear c1 c2
        go_wp2_with fail
        refine ret_below (D2.out _ hb12) fun w3 hb3 => ?_
        have hb13 := below_trans hb12 hb3
        have x3 := (C1.out.below hb3).c3
        have y3 := (C2.out.below hb3).c3
        have x4 := (C1.out.below hb3).c4
        have y4 := (C2.out.below hb3).c4
        have lx := (C1.out.below hb3).lt
        have ly := (C2.out.below hb3).lt
        clear x2 y2
        go_wp2_with fail
        refine ret_below (D3.out _ hb13) fun w4 hb4 => ?_
        go_wp2_with fail
        go_ret
        exact RetB.bool HV.out (below_trans hb13 hb4)
  · have HV := Lib.hid (E0.out e0)
    have f0 : (gh == kh) = false := by simp [e0]
    clear e0
    go_enter Tryd.func17, Tryd.ntmps17
    go_wp2_with fail
    go_ret
    exact RetB.bool HV.out (bl_alloc _ (below_alloc _ _))

set_option maxRecDepth 100000 in
set_option maxHeartbeats 4000000 in
theorem refSame_gift {P P' : Nat → Prop} (u v : Value) (G K : GiftD) (w : World) (hG : GiftR P w u G) (hK : GiftR P' w v K) (sG : GSmall G) :
    Calls Tryd.prog 22 #[u, v] w (RetB (.bool (eqG G K)) w) := by
  obtain ⟨A, ca, B, cb, C, cc, rfl, h1, h2, h3⟩ := hG
  obtain ⟨A', ca', B', cb', C', cc', rfl, k1, k2, k3⟩ := hK
  obtain ⟨s1, s2, s3, s4, s5⟩ := sG
  have D1 := Lib.hid (fun (W : World) (hb : Below w.heap.size w W) => refSame_any A A' G.bx K.bx ca ca' W (h1.below hb) (k1.below hb) s1 (by omega))
  have D2 := Lib.hid (fun (W : World) (hb : Below w.heap.size w W) => refSame_any B B' G.wh K.wh cb cb' W (h2.below hb) (k2.below hb) s2 (by omega))
  have H3 := Lib.hid h3
  have K3 := Lib.hid k3
  have E0 := Lib.hid (fun h => eqG_h (G := G) (K := K) h)
  have E1 := Lib.hid (fun h => eqG_b (G := G) (K := K) h)
  have E2 := Lib.hid (fun h => eqG_w (G := G) (K := K) h)
  have E3 := Lib.hid (fun h1 h2 h3 => eqG_k (G := G) (K := K) h1 h2 h3)
  clear h1 h2 h3 k1 k2 k3 s1 s2
  generalize hq : eqG G K = q at *
  clear hq
  obtain ⟨gh, gb, gw, gkh, gkv⟩ := G
  obtain ⟨kh, kb, kw, kkh, kkv⟩ := K
  simp only at *
  have HB := Lib.hid (Below.refl w.heap.size w)
  by_cases e0 : gh = kh
  · have f0 : (gh == kh) = true := by simp [e0]
    have E3' := Lib.hid (E3.out e0)
    clear e0
    cases q1 : eqShs gb kb with
    | false =>
      have HV := Lib.hid (E1.out q1)
      rw [q1] at D1
      clear q1
      go_enter Tryd.func22, Tryd.ntmps22
      go_wp2_with fail
      refine gen_calls fun w1 hw1 => ?_
      have c1 : GiftCell w1 w.heap.size gh (.slice A gb.length ca) (.slice B gw.length cb) gkh (.slice C gkv.length cc) := by rw [hw1]; exact (GiftCell.new _ _ _ _ _ rfl).alloc _
      have c2 : GiftCell w1 (w.heap.size + 1) kh (.slice A' kb.length ca') (.slice B' kw.length cb') kkh (.slice C' kkv.length cc') := by rw [hw1]; exact GiftCell.new _ _ _ _ _ (by simp)
      have hb1 : Below w.heap.size w w1 := by rw [hw1]; exact bl_alloc _ (below_alloc _ _)
      clear hw1
      refine ret_below (D1.out _ hb1) fun w2 hb2 => ?_
      go_wp2_with fail
      go_ret
      exact RetB.bool HV.out (below_trans hb1 hb2)
    | true =>
      rw [q1] at D1
      cases q2 : eqShs gw kw with
      | false =>
        have HV := Lib.hid (E2.out q2)
        rw [q2] at D2
        clear q1 q2
        go_enter Tryd.func22, Tryd.ntmps22
        go_wp2_with fail
        refine gen_calls fun w1 hw1 => ?_
        have c1 : GiftCell w1 w.heap.size gh (.slice A gb.length ca) (.slice B gw.length cb) gkh (.slice C gkv.length cc) := by rw [hw1]; exact (GiftCell.new _ _ _ _ _ rfl).alloc _
        have c2 : GiftCell w1 (w.heap.size + 1) kh (.slice A' kb.length ca') (.slice B' kw.length cb') kkh (.slice C' kkv.length cc') := by rw [hw1]; exact GiftCell.new _ _ _ _ _ (by simp)
        have hb1 : Below w.heap.size w w1 := by rw [hw1]; exact bl_alloc _ (below_alloc _ _)
        clear hw1
        refine ret_below (D1.out _ hb1) fun w2 hb2 => ?_
        have hb12 := below_trans hb1 hb2
        have x2 := (c1.below hb2).c2
        have y2 := (c2.below hb2).c2
        clear c1 c2
        go_wp2_with fail
        refine ret_below (D2.out _ hb12) fun w3 hb3 => ?_
        go_wp2_with fail
        go_ret
        exact RetB.bool HV.out (below_trans hb12 hb3)
      | true =>
        have HV := Lib.hid (E3'.out q1 q2)
        rw [q2] at D2
        clear q1 q2
        go_enter Tryd.func22, Tryd.ntmps22
        go_wp2_with fail
        refine gen_calls fun w1 hw1 => ?_
        have c1 : GiftCell w1 w.heap.size gh (.slice A gb.length ca) (.slice B gw.length cb) gkh (.slice C gkv.length cc) := by rw [hw1]; exact (GiftCell.new _ _ _ _ _ rfl).alloc _
        have c2 : GiftCell w1 (w.heap.size + 1) kh (.slice A' kb.length ca') (.slice B' kw.length cb') kkh (.slice C' kkv.length cc') := by rw [hw1]; exact GiftCell.new _ _ _ _ _ (by simp)
        have hb1 : Below w.heap.size w w1 := by rw [hw1]; exact bl_alloc _ (below_alloc _ _)
        clear hw1
        refine ret_below (D1.out _ hb1) fun w2 hb2 => ?_
        have hb12 := below_trans hb1 hb2
        have C1 := Lib.hid (c1.below hb2)
        have C2 := Lib.hid (c2.below hb2)
        have x2 := C1.out.c2
        have y2 := C2.out.c2
        clear c1 c2
        go_wp2_with fail
        refine ret_below (D2.out _ hb12) fun w3 hb3 => ?_
        have hb13 := below_trans hb12 hb3
        have x3 := (C1.out.below hb3).c3
        have y3 := (C2.out.below hb3).c3
        have x4 := (C1.out.below hb3).c4
        have y4 := (C2.out.below hb3).c4
        have lx := (C1.out.below hb3).lt
        have ly := (C2.out.below hb3).lt
        clear x2 y2
        go_wp2_with fail
        refine gen_calls fun w4 hw4 => ?_
        have hb4 : Below w3.heap.size w3 w4 := by rw [hw4]; exact bl_alloc _ (below_alloc _ _)
        have hb14 := below_trans hb13 hb4
        have l1 : ShP (fun _ => True) w4 (some ⟨w3.heap.size, 0, none⟩) 1 [(gkh, gkv)] := lit_one (by rw [hw4]; exact ((below_alloc _ _).block _ (by simp)).trans (heap_alloc_new _ _)) trivial ((H3.out.keep (Kept.below hb14)).mono (fun _ _ _ => trivial))
        have l2 : ShP (fun _ => True) w4 (some ⟨w3.heap.size + 1, 0, none⟩) 1 [(kkh, kkv)] := lit_one (by rw [hw4]; simpa using heap_alloc_new (w3.alloc _) _) trivial ((K3.out.keep (Kept.below hb14)).mono (fun _ _ _ => trivial))
        have hlc := Lib.hid (refSame_any _ _ [(gkh, gkv)] [(kkh, kkv)] 1 1 w4 l1 l2 (short_one' s3) (by simp))
        rw [eqShs_one] at hlc
        clear hw4 l1 l2 x3 y3 x4 y4
        refine ret_below hlc.out fun w5 hb5 => ?_
        go_wp2_with fail
        go_ret
        exact RetB.bool HV.out (below_trans hb14 hb5)
  · have HV := Lib.hid (E0.out e0)
    have f0 : (gh == kh) = false := by simp [e0]
    clear e0
    go_enter Tryd.func22, Tryd.ntmps22
    go_wp2_with fail
    go_ret
    exact RetB.bool HV.out (bl_alloc _ (below_alloc _ _))

end Go.Proofs.YtjckpammcgeloaaDoor
namespace Go.Proofs.YtjckpammcgeloaaDoor
open Go.RowKit

set_option maxHeartbeats 1000000 in
theorem ref42Same_any {P P' : Nat → Prop} (u v : Value) (G K : GiftD) (w : World) (hG : GiftR P w u G) (hK : GiftR P' w v K) (sG : GSmall G) :
    Calls Tryd.prog 18 #[u, v] w (RetB (.bool (eqG G K)) w) := by
  have HC := Lib.hid (fun (W : World) (hb : Below w.heap.size w W) => refSame_gift u v G K W (hG.below hb) (hK.below hb) sG)
  obtain ⟨A, ca, B, cb, C, cc, rfl, -⟩ := hG
  obtain ⟨A', ca', B', cb', C', cc', rfl, -⟩ := hK
  generalize eqG G K = q at *
  obtain ⟨gh, gb, gw, gkh, gkv⟩ := G
  obtain ⟨kh, kb, kw, kkh, kkv⟩ := K
  clear sG
  simp only at *
  go_enter Tryd.func18, Tryd.ntmps18
  go_wp2_with fail
  refine gen_calls fun w1 hw1 => ?_
  have hb1 : Below w.heap.size w w1 := by rw [hw1]; exact bl_alloc _ (below_alloc _ _)
  clear hw1
  refine ret_below (HC.out _ hb1) fun w2 hb2 => ?_
  go_wp2_with fail
  go_ret
  exact RetB.bool rfl (below_trans hb1 hb2)

/-! ### Places -/
set_option maxHeartbeats 400000 in
theorem place_any (n m : Int) (w : World) (hm : 1 ≤ m) (hm2 : m ≤ 4611686018427387904) :
    Calls Tryd.prog 55 #[.int .i64 n, .int .i64 m] w (Ret (.int .i64 (n % m)) w) := by
  have h1 := Int.tmod_lt_of_pos n (b := m) (by omega)
  have h2 := Int.lt_tmod_of_pos n (b := m) (by omega)
  have HE := Lib.hid (show (n.tmod m + m) % m = n % m by rw [show (n.tmod m + m) % m = n.tmod m % m by simp, Int.tmod_def, Int.sub_mul_emod_self_left])
  go_enter Tryd.func55, Tryd.ntmps55
  go_wp2
  go_ret
  exact Ret.int HE.out
set_option maxHeartbeats 400000 in
theorem refMod_any (n m : Int) (w : World) (hm : 1 ≤ m) (hm2 : m ≤ 4611686018427387904) :
    Calls Tryd.prog 46 #[.int .i64 n, .int .i64 m] w (Ret (.int .i64 (n % m)) w) := by
  have h1 := Int.tmod_lt_of_pos n (b := m) (by omega)
  have h2 := Int.lt_tmod_of_pos n (b := m) (by omega)
  have HE := Lib.hid (show (n.tmod m + m) % m = n % m by rw [show (n.tmod m + m) % m = n.tmod m % m by simp, Int.tmod_def, Int.sub_mul_emod_self_left])
  go_enter Tryd.func46, Tryd.ntmps46
  go_wp2
  go_ret
  exact Ret.int HE.out

/-! ### Which lies there are -/
def chkE (p n h lh lk : Int) : Int := if plB p n h = true ∧ inI lh 1 h = true ∧ inI lk 0 5 = true then 0 else 1
theorem chk_pl {p n h lh lk : Int} (H : plB p n h = false) : 1 = chkE p n h lh lk := by unfold chkE; rw [if_neg (by rw [H]; simp)]
theorem chk_1 {p n h lh lk : Int} (H : inI lh 1 h = false) : 1 = chkE p n h lh lk := by unfold chkE; rw [if_neg (by rw [H]; simp)]
theorem chk_2 {p n h lh lk : Int} (H : inI lk 0 5 = false) : 1 = chkE p n h lh lk := by unfold chkE; rw [if_neg (by rw [H]; simp)]
theorem chk_ok {p n h lh lk : Int} (H : plB p n h = true) (H1 : inI lh 1 h = true) (H2 : inI lk 0 5 = true) : 0 = chkE p n h lh lk := by unfold chkE; rw [if_pos ⟨H, H1, H2⟩]
theorem chk_zero {p n h lh lk : Int} (H : chkE p n h lh lk = 0) : plB p n h = true ∧ inI lh 1 h = true ∧ inI lk 0 5 = true := by
  unfold chkE at H
  split at H
  · assumption
  · cases H
theorem chk_01 (p n h lh lk : Int) : chkE p n h lh lk = 0 ∨ chkE p n h lh lk = 1 := by
  unfold chkE; split
  · exact .inl rfl
  · exact .inr rfl

set_option maxRecDepth 100000 in
set_option maxHeartbeats 1000000 in
theorem check_lie (p n h lh lk lb : Int) (w : World) (hB : Bases w) :
    Calls Tryd.prog 25 #[planV p n h, lieV lh lk lb] w (RetB (.int .i64 (chkE p n h lh lk)) w) := by
  have HP := Lib.hid (fun (W : World) (hb : Below w.heap.size w W) => valid_plan p n h W (hB.below hb hB.1))
  clear hB
  cases q0 : plB p n h with
  | false =>
    have HV := Lib.hid (chk_pl (lh := lh) (lk := lk) q0)
    rw [q0] at HP
    clear q0
    go_enter Tryd.func25, Tryd.ntmps25
    go_wp2_with fail
    refine gen_calls fun w1 hw1 => ?_
    have c1 : PlanCell w1 w.heap.size p n h := by rw [hw1]; exact (PlanCell.new _ _ _ rfl).alloc _
    have c2 : LieCell w1 (w.heap.size + 1) lh lk lb := by rw [hw1]; exact LieCell.new _ _ _ (by simp)
    have hb1 : Below w.heap.size w w1 := by rw [hw1]; exact bl_alloc _ (below_alloc _ _)
    clear hw1
    refine ret_below (HP.out _ hb1) fun w2 hb2 => ?_
    go_wp2_with fail
    go_ret
    exact RetB.int HV.out (below_trans hb1 hb2)
  | true =>
    rw [q0] at HP
    cases q1 : inI lh 1 h with
    | false =>
      have HV := Lib.hid (chk_1 (p := p) (n := n) (lk := lk) q1)
      have HI := Lib.hid (in_no lh 1 h q1)
      clear q0 q1
      go_enter Tryd.func25, Tryd.ntmps25
      go_wp2_with fail
      refine gen_calls fun w1 hw1 => ?_
      have c1 : PlanCell w1 w.heap.size p n h := by rw [hw1]; exact (PlanCell.new _ _ _ rfl).alloc _
      have c2 : LieCell w1 (w.heap.size + 1) lh lk lb := by rw [hw1]; exact LieCell.new _ _ _ (by simp)
      have hb1 : Below w.heap.size w w1 := by rw [hw1]; exact bl_alloc _ (below_alloc _ _)
      clear hw1
      refine ret_below (HP.out _ hb1) fun w2 hb2 => ?_
      have x2 := (c1.below hb2).c2
      have y0 := (c2.below hb2).c0
      clear c1 c2
      go_wp2_with fail
      refine ret_pure (HI.out _) ?_
      go_wp2_with fail
      go_ret
      exact RetB.int HV.out (below_trans hb1 hb2)
    | true =>
      have HI := Lib.hid (in_yes lh 1 h q1)
      cases q2 : inI lk 0 5 with
      | false =>
        have HV := Lib.hid (chk_2 (p := p) (n := n) (h := h) (lh := lh) q2)
        have HJ := Lib.hid (in_no lk 0 5 q2)
        clear q0 q1 q2
        go_enter Tryd.func25, Tryd.ntmps25
        go_wp2_with fail
        refine gen_calls fun w1 hw1 => ?_
        have c1 : PlanCell w1 w.heap.size p n h := by rw [hw1]; exact (PlanCell.new _ _ _ rfl).alloc _
        have c2 : LieCell w1 (w.heap.size + 1) lh lk lb := by rw [hw1]; exact LieCell.new _ _ _ (by simp)
        have hb1 : Below w.heap.size w w1 := by rw [hw1]; exact bl_alloc _ (below_alloc _ _)
        clear hw1
        refine ret_below (HP.out _ hb1) fun w2 hb2 => ?_
        have x2 := (c1.below hb2).c2
        have y0 := (c2.below hb2).c0
        have y1 := (c2.below hb2).c1
        clear c1 c2
        go_wp2_with fail
        refine ret_pure (HI.out _) ?_
        go_wp2_with fail
        refine ret_pure (HJ.out _) ?_
        go_wp2_with fail
        go_ret
        exact RetB.int HV.out (below_trans hb1 hb2)
      | true =>
        have HV := Lib.hid (chk_ok q0 q1 q2)
        have HJ := Lib.hid (in_yes lk 0 5 q2)
        clear q0 q1 q2
        go_enter Tryd.func25, Tryd.ntmps25
        go_wp2_with fail
        refine gen_calls fun w1 hw1 => ?_
        have c1 : PlanCell w1 w.heap.size p n h := by rw [hw1]; exact (PlanCell.new _ _ _ rfl).alloc _
        have c2 : LieCell w1 (w.heap.size + 1) lh lk lb := by rw [hw1]; exact LieCell.new _ _ _ (by simp)
        have hb1 : Below w.heap.size w w1 := by rw [hw1]; exact bl_alloc _ (below_alloc _ _)
        clear hw1
        refine ret_below (HP.out _ hb1) fun w2 hb2 => ?_
        have x2 := (c1.below hb2).c2
        have y0 := (c2.below hb2).c0
        have y1 := (c2.below hb2).c1
        clear c1 c2
        go_wp2_with fail
        refine ret_pure (HI.out _) ?_
        go_wp2_with fail
        refine ret_pure (HJ.out _) ?_
        go_wp2_with fail
        go_ret
        exact RetB.int HV.out (below_trans hb1 hb2)

set_option maxRecDepth 100000 in
set_option maxHeartbeats 1000000 in
theorem refCheck_lie (p n h lh lk lb : Int) (w : World) (hv : primeV p = validI p) :
    Calls Tryd.prog 29 #[planV p n h, lieV lh lk lb] w (RetB (.int .i64 (chkE p n h lh lk)) w) := by
  have HP := Lib.hid (fun (W : World) => refValid_plan p n h W hv)
  have HP := Lib.hid (fun (W : World) (_ : Below w.heap.size w W) => HP.out W)
  clear hv
  cases q0 : plB p n h with
  | false =>
    have HV := Lib.hid (chk_pl (lh := lh) (lk := lk) q0)
    rw [q0] at HP
    clear q0
    go_enter Tryd.func29, Tryd.ntmps29
    go_wp2_with fail
    refine gen_calls fun w1 hw1 => ?_
    have c1 : PlanCell w1 w.heap.size p n h := by rw [hw1]; exact (PlanCell.new _ _ _ rfl).alloc _
    have c2 : LieCell w1 (w.heap.size + 1) lh lk lb := by rw [hw1]; exact LieCell.new _ _ _ (by simp)
    have hb1 : Below w.heap.size w w1 := by rw [hw1]; exact bl_alloc _ (below_alloc _ _)
    clear hw1
    refine ret_below (HP.out _ hb1) fun w2 hb2 => ?_
    have x2 := (c1.below hb2).c2
    have y0 := (c2.below hb2).c0
    have y1 := (c2.below hb2).c1
    clear c1 c2
    go_wp2_with fail
    go_ret
    exact RetB.int HV.out (below_trans hb1 hb2)
  | true =>
    rw [q0] at HP
    by_cases a1 : lh < 1
    · have HV := Lib.hid (chk_1 (p := p) (n := n) (lh := lh) (h := h) (lk := lk) (decide_eq_false (by omega)))
      clear q0
      go_enter Tryd.func29, Tryd.ntmps29
      go_wp2_with fail
      refine gen_calls fun w1 hw1 => ?_
      have c1 : PlanCell w1 w.heap.size p n h := by rw [hw1]; exact (PlanCell.new _ _ _ rfl).alloc _
      have c2 : LieCell w1 (w.heap.size + 1) lh lk lb := by rw [hw1]; exact LieCell.new _ _ _ (by simp)
      have hb1 : Below w.heap.size w w1 := by rw [hw1]; exact bl_alloc _ (below_alloc _ _)
      clear hw1
      refine ret_below (HP.out _ hb1) fun w2 hb2 => ?_
      have x2 := (c1.below hb2).c2
      have y0 := (c2.below hb2).c0
      have y1 := (c2.below hb2).c1
      clear c1 c2
      go_wp2_with fail
      go_ret
      exact RetB.int HV.out (below_trans hb1 hb2)
    · by_cases a2 : h < lh
      · have HV := Lib.hid (chk_1 (p := p) (n := n) (lh := lh) (h := h) (lk := lk) (decide_eq_false (by omega)))
        clear q0
        go_enter Tryd.func29, Tryd.ntmps29
        go_wp2_with fail
        refine gen_calls fun w1 hw1 => ?_
        have c1 : PlanCell w1 w.heap.size p n h := by rw [hw1]; exact (PlanCell.new _ _ _ rfl).alloc _
        have c2 : LieCell w1 (w.heap.size + 1) lh lk lb := by rw [hw1]; exact LieCell.new _ _ _ (by simp)
        have hb1 : Below w.heap.size w w1 := by rw [hw1]; exact bl_alloc _ (below_alloc _ _)
        clear hw1
        refine ret_below (HP.out _ hb1) fun w2 hb2 => ?_
        have x2 := (c1.below hb2).c2
        have y0 := (c2.below hb2).c0
        have y1 := (c2.below hb2).c1
        clear c1 c2
        go_wp2_with fail
        go_ret
        exact RetB.int HV.out (below_trans hb1 hb2)
      · by_cases a3 : lk < 0
        · have HV := Lib.hid (chk_2 (p := p) (n := n) (h := h) (lh := lh) (lk := lk) (decide_eq_false (by omega)))
          clear q0
          go_enter Tryd.func29, Tryd.ntmps29
          go_wp2_with fail
          refine gen_calls fun w1 hw1 => ?_
          have c1 : PlanCell w1 w.heap.size p n h := by rw [hw1]; exact (PlanCell.new _ _ _ rfl).alloc _
          have c2 : LieCell w1 (w.heap.size + 1) lh lk lb := by rw [hw1]; exact LieCell.new _ _ _ (by simp)
          have hb1 : Below w.heap.size w w1 := by rw [hw1]; exact bl_alloc _ (below_alloc _ _)
          clear hw1
          refine ret_below (HP.out _ hb1) fun w2 hb2 => ?_
          have x2 := (c1.below hb2).c2
          have y0 := (c2.below hb2).c0
          have y1 := (c2.below hb2).c1
          clear c1 c2
          go_wp2_with fail
          go_ret
          exact RetB.int HV.out (below_trans hb1 hb2)
        · by_cases a4 : 5 < lk
          · have HV := Lib.hid (chk_2 (p := p) (n := n) (h := h) (lh := lh) (lk := lk) (decide_eq_false (by omega)))
            clear q0
            go_enter Tryd.func29, Tryd.ntmps29
            go_wp2_with fail
            refine gen_calls fun w1 hw1 => ?_
            have c1 : PlanCell w1 w.heap.size p n h := by rw [hw1]; exact (PlanCell.new _ _ _ rfl).alloc _
            have c2 : LieCell w1 (w.heap.size + 1) lh lk lb := by rw [hw1]; exact LieCell.new _ _ _ (by simp)
            have hb1 : Below w.heap.size w w1 := by rw [hw1]; exact bl_alloc _ (below_alloc _ _)
            clear hw1
            refine ret_below (HP.out _ hb1) fun w2 hb2 => ?_
            have x2 := (c1.below hb2).c2
            have y0 := (c2.below hb2).c0
            have y1 := (c2.below hb2).c1
            clear c1 c2
            go_wp2_with fail
            go_ret
            exact RetB.int HV.out (below_trans hb1 hb2)
          · have HV := Lib.hid (chk_ok (p := p) (n := n) (h := h) (lh := lh) (lk := lk) q0 (decide_eq_true (by omega)) (decide_eq_true (by omega)))
            clear q0
            go_enter Tryd.func29, Tryd.ntmps29
            go_wp2_with fail
            refine gen_calls fun w1 hw1 => ?_
            have c1 : PlanCell w1 w.heap.size p n h := by rw [hw1]; exact (PlanCell.new _ _ _ rfl).alloc _
            have c2 : LieCell w1 (w.heap.size + 1) lh lk lb := by rw [hw1]; exact LieCell.new _ _ _ (by simp)
            have hb1 : Below w.heap.size w w1 := by rw [hw1]; exact bl_alloc _ (below_alloc _ _)
            clear hw1
            refine ret_below (HP.out _ hb1) fun w2 hb2 => ?_
            have x2 := (c1.below hb2).c2
            have y0 := (c2.below hb2).c0
            have y1 := (c2.below hb2).c1
            clear c1 c2
            go_wp2_with fail
            go_ret
            exact RetB.int HV.out (below_trans hb1 hb2)

end Go.Proofs.YtjckpammcgeloaaDoor
