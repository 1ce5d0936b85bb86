/-
  Shares: a plan of the statements, and shares of a secret as the calls make and take them.
  Shares: the sum of two, the product with an element.
  Shares: sums of shares are shares of sums; lists of shares under way whose values lie anywhere.
  Shares: the document's Deal.
  Shares: the verifier's Dealt.
  Refresh: the index of a share with a holder; closures of Apply.
  Conditions: those that each theorem names.
-/
import Derived.Test.YtlhipgejiacklaaDoorM5
import Derived.StillTailTactics
set_option linter.unusedVariables false
set_option linter.unusedSimpArgs false
namespace Go.Proofs.YtlhipgejiacklaaDoor
open Go.RowKit

structure PlanN (p n h : Nat) : Prop where
  pr : PrimeN p
  pv : primeV p = validI p
  pl : plB p n h = true
  n1 : 1 ≤ n
  nh : n ≤ h
  h7 : h ≤ 16
  hp : h < p
  p2 : p ≤ 1073741824
theorem PlanN.mk' {p n h : Nat} (hp : PrimeN p) (h2 : p ≤ 1073741824) (h1 : 1 ≤ n) (hh : n ≤ h) (h7 : h ≤ 7) (hlt : h < p) : PlanN p n h :=
  ⟨hp, (prime_valid hp h2).1, plB_true h1 hh (by omega) hlt (prime_valid hp h2).2, h1, hh, by omega, hlt, h2⟩
theorem PlanN.p1 {p n h : Nat} (H : PlanN p n h) : 1 ≤ p := by have := H.pr.1; omega

/-- Shares of the list sec. -/
structure Made (p n h : Nat) (sec : List Nat) (N : List ShN) : Prop where
  ex : ∃ F, OnP p h sec.length F N ∧ (∀ i, i < sec.length → (F i).length ≤ n) ∧ (List.range sec.length).map (fun i => evN p (F i) 0) = sec
theorem Made.perm {p n h : Nat} {sec : List Nat} {N M : List ShN} (H : Made p n h sec N) (hs : M.Perm N) : Made p n h sec M := by
  obtain ⟨F, h1, h2, h3⟩ := H.ex
  exact ⟨F, h1.perm hs, h2, h3⟩
theorem Made.take {p n h : Nat} {sec : List Nat} {N : List ShN} (H : Made p n h sec N) (k : Nat) : Made p n h sec (N.take k) := by
  obtain ⟨F, h1, h2, h3⟩ := H.ex
  exact ⟨F, h1.take k, h2, h3⟩
theorem Made.short {p n h : Nat} {sec : List Nat} {N : List ShN} (H : Made p n h sec N) (hm : sec.length ≤ 1048576) : Short (shL N) := by
  obtain ⟨F, h1, h2, h3⟩ := H.ex
  exact h1.short hm
theorem Made.cm {p n h : Nat} {sec : List Nat} {N : List ShN} (H : Made p n h sec N) (P : PlanN p n h) (hm : sec.length ≤ 2048) (hn : n ≤ N.length) : cmE p n h (shL N) = 0 ∧ cmL p n h (shL N) = sec := by
  obtain ⟨F, h1, h2, h3⟩ := H.ex
  have := cm_on h1 P.pr P.pl hm hn h2
  rw [h3] at this; exact this
theorem Made.few {p n h : Nat} {sec : List Nat} {N : List ShN} (H : Made p n h sec N) (P : PlanN p n h) (hm : sec.length ≤ 2048) (hn : N.length < n) : cmE p n h (shL N) = 5 ∧ cmL p n h (shL N) = [] := by
  obtain ⟨F, h1, h2, h3⟩ := H.ex
  have := cm_few h1 P.pl hm hn
  exact ⟨this, cmL_no (by rw [this]; decide)⟩
theorem Made.ft {p n h : Nat} {sec : List Nat} {N : List ShN} (H : Made p n h sec N) (P : PlanN p n h) (hm : sec.length ≤ 2048) : ftB p n h (shL N) = true := by
  obtain ⟨F, h1, h2, h3⟩ := H.ex
  exact ft_on h1 P.pr P.pl hm h2
theorem deal_Made {p n h : Nat} {sec ran : List Nat} (P : PlanN p n h) (hs : ∀ x ∈ sec, x < p) (hr : ∀ x ∈ ran, x < p) : Made p n h sec (dealN p n h sec ran) :=
  ⟨_, deal_on, fun _ _ => polN_le P.n1, deal_sec P.p1 hs hr⟩

def DealR (N : List ShN) (h : Nat) (w : World) (e : Ending) (w' : World) : Prop :=
  ∃ A c, e = .returned (.tuple #[.slice A h c, .int .i64 0]) ∧ ShP (fun b => w.heap.size ≤ b) w' A c (shL N) ∧ Below w.heap.size w w'
theorem deal_made {p n h : Nat} {A B : Option Addr} {ca cb k j : Nat} {sec ran : List Nat} {w : World} (P : PlanN p n h) (hB : Bases w) (hA : NatsAt w A sec) (hR : NatsAt w B ran) (hok : SlOK B cb ran)
    (hm : sec.length ≤ 2048) (hs : ∀ x ∈ sec, x < p) (hr : ∀ x ∈ ran, x < p) (hl : ran.length = sec.length * (n - 1)) (hl2 : ran.length ≤ 1048576) (hk : k = sec.length) (hj : j = ran.length) :
    Calls Tryd.prog 50 #[planV p n h, .slice A k ca, .slice B j cb] w (DealR (dealN p n h sec ran) h w) := by
  subst hk hj
  refine (deal_nats P.pv hB hA hR hok P.pl hm hs hr hl hl2).mono ?_
  rintro e w' ⟨A', c', rfl, h1, h2⟩
  exact ⟨A', c', by rw [shL_len, deal_len], h1, h2⟩

def Part (M N : List ShN) : Prop := ∃ M' : List ShN, M'.Perm N ∧ M = M'.take M.length
theorem Made.part {p n h : Nat} {sec : List Nat} {N M : List ShN} (H : Made p n h sec N) (hs : Part M N) : Made p n h sec M := by
  obtain ⟨M', h1, h2⟩ := hs
  rw [h2]; exact (H.perm h1).take _
def TurnM (D : Nat) (N : List ShN) (least : Nat) (w : World) (e : Ending) (w' : World) : Prop :=
  ∃ (A : Option Addr) (c : Nat) (M : List ShN) (R' : List Int), e = .returned (.slice A M.length c) ∧ Part M N ∧ M.length ≤ N.length ∧ (least ≤ N.length → least ≤ M.length) ∧ ShP (· ≠ D) w' A c (shL M) ∧ DiceAt w' D R' ∧ w.grownBy w' (some D)
theorem unshL {N : List ShN} {Q : List Shr} (hq : Q.Perm (shL N)) : ∃ M, Q = shL M ∧ M.length = N.length ∧ M.Perm N := by
  have hm : ∀ {Q T : List Shr}, Q.Perm T → ∀ N, T = shL N → ∃ M, Q = shL M ∧ M.Perm N := by
    intro Q T h
    induction h with
    | nil => intro N hN; exact ⟨[], rfl, by cases N with | nil => exact .nil | cons a t => simp [shL] at hN⟩
    | @cons x l1 l2 h ih => intro N hN; cases N with
      | nil => simp [shL] at hN
      | cons a t =>
        have hN' : x = shI a ∧ l2 = shL t := by simpa [shL] using hN
        obtain ⟨M, rfl, hM⟩ := ih t hN'.2
        exact ⟨a :: M, by rw [hN'.1]; rfl, hM.cons a⟩
    | swap x y l => intro N hN; cases N with
      | nil => simp [shL] at hN
      | cons a t => cases t with
        | nil => simp [shL] at hN
        | cons b u =>
          have hN' : x = shI a ∧ y = shI b ∧ l = shL u := by simpa [shL] using hN
          exact ⟨b :: a :: u, by rw [hN'.1, hN'.2.1, hN'.2.2]; rfl, .swap a b u⟩
    | trans h1 h2 ih1 ih2 => intro N hN; obtain ⟨M, e, hM⟩ := ih2 N hN; obtain ⟨K, e2, hK⟩ := ih1 M e; exact ⟨K, e2, hK.trans hM⟩
  obtain ⟨M, e, h⟩ := hm hq N rfl
  exact ⟨M, e, h.length_eq, h⟩
theorem turn_made {P : Nat → Prop} (D : Nat) (R : List Int) (A : Option Addr) (c k : Nat) (N : List ShN) (least : Nat) (w : World) (hd : DiceAt w D R) (hS : ShP P w A c (shL N)) (hsh : Short (shL N)) (hl : N.length ≤ 100000) (hle : least ≤ 100000) (hk : k = N.length) :
    Calls Tryd.prog 28 #[.pointer (some ⟨D, 0, none⟩), .slice A k c, .int .i64 (least : Int)] w (TurnM D N least w) := by
  rw [hk, ← shL_len]
  refine (turn_any D R A c (shL N) least w hd hS hsh (by rw [shL_len]; exact hl) hle).mono ?_
  rintro e w' ⟨A', c', m, Q, R', rfl, hq, hm, hlm, h1, h2, h3⟩
  obtain ⟨M, rfl, hM, hp⟩ := unshL hq
  rw [shL_len] at hm hlm
  have hl' : (M.take m).length = m := by rw [List.length_take]; omega
  rw [shL_take] at h1
  exact ⟨A', c', M.take m, R', by rw [hl'], ⟨M, hp, by rw [hl']⟩, by omega, by omega, h1, h2, h3⟩

theorem combine_made {p n h : Nat} {sec : List Nat} {N : List ShN} {P : Nat → Prop} (H : Made p n h sec N) (PN : PlanN p n h) (A : Option Addr) (c k : Nat) (w : World) (hB : Bases w) (hS : ShP P w A c (shL N)) (hm : sec.length ≤ 2048) (hl : N.length ≤ 1048576) (hk : k = N.length) (hn : n ≤ N.length) :
    Calls Tryd.prog 52 #[planV p n h, .slice A k c] w (ListErr sec 0 w) := by
  have h1 := H.cm PN hm hn
  have := combine_any p n h A c (shL N) w PN.pv hB hS (H.short (by omega)) (by rw [shL_len]; exact hl)
  rw [h1.1, h1.2, shL_len, ← hk] at this
  exact this
theorem combine_few {p n h : Nat} {sec : List Nat} {N : List ShN} {P : Nat → Prop} (H : Made p n h sec N) (PN : PlanN p n h) (A : Option Addr) (c k : Nat) (w : World) (hB : Bases w) (hS : ShP P w A c (shL N)) (hm : sec.length ≤ 2048) (hl : N.length ≤ 1048576) (hk : k = N.length) (hn : N.length < n) :
    Calls Tryd.prog 52 #[planV p n h, .slice A k c] w (ListErr [] 5 w) := by
  have h1 := H.few PN hm hn
  have := combine_any p n h A c (shL N) w PN.pv hB hS (H.short (by omega)) (by rw [shL_len]; exact hl)
  rw [h1.1, h1.2, shL_len, ← hk] at this
  exact this
theorem fits_made {p n h : Nat} {sec : List Nat} {N : List ShN} {P : Nat → Prop} (H : Made p n h sec N) (PN : PlanN p n h) (A : Option Addr) (c k : Nat) (w : World) (hB : Bases w) (hS : ShP P w A c (shL N)) (hm : sec.length ≤ 2048) (hl : N.length ≤ 1048576) (hk : k = N.length) :
    Calls Tryd.prog 51 #[planV p n h, .slice A k c] w (RetB (.bool true) w) := by
  have h1 := H.ft PN hm
  have := fits_any p n h A c (shL N) w PN.pv hB hS (H.short (by omega)) (by rw [shL_len]; exact hl)
  rw [h1, shL_len, ← hk] at this
  exact this
theorem below_drewT (w : World) : Below w.heap.size w w.drew := below_drewN (Below.refl _ w) 1
theorem ShP.drewT {P : Nat → Prop} {w : World} {A : Option Addr} {c : Nat} {S : List Shr} (h : ShP P w A c S) : ShP P w.drew A c S := h.below (below_drewT w)
theorem Held.drewT {w : World} {D : Nat} {A : Option Addr} {c : Nat} {L : List Nat} (h : Held w D A c L) : Held w.drew D A c L := h.below (below_drewT w)
theorem Env.drewT {w0 w : World} {D : Nat} {R : List Int} (h : Env w0 w D R) : Env w0 w.drew D R := h.mv (below_drewT w)
/-- Two equal lists. -/
theorem same_at (A A' : Option Addr) (L : List Nat) (k k' c c' : Nat) (w : World) (hL : NatsAt w A L) (hM : NatsAt w A' L) (hl : L.length ≤ 1152921504606846976) (hk : k = L.length) (hk' : k' = L.length) :
    Calls Tryd.prog 29 #[.slice A k c, .slice A' k' c'] w (Ret (.bool true) w) := by
  subst hk; subst hk'; exact same_nats A A' L c c' w hL hM hl
theorem ListErr.held {L : List Nat} {er : Int} {w w' : World} {e : Ending} {D : Nat} (h : ListErr L er w e w') (hD : D < w.heap.size) : ∃ A c, e = .returned (.tuple #[.slice A L.length c, .int .i64 er]) ∧ Held w' D A c L ∧ Below w.heap.size w w' := by
  obtain ⟨A, c, rfl, h1, h2, h3, h4⟩ := h
  exact ⟨A, c, rfl, held_new hD h1 h2 h3, h4⟩
end Go.Proofs.YtlhipgejiacklaaDoor
namespace Go.Proofs.YtlhipgejiacklaaDoor
open Go.RowKit

/-- A new share. -/
def NewShr (x : Int) (L : List Nat) (w : World) (e : Ending) (w' : World) : Prop :=
  ∃ A c, e = .returned (shV x (.slice A L.length c)) ∧ NatsAt w' A L ∧ SlOK A c L ∧ (∀ b off, A = some ⟨b, off, none⟩ → w.heap.size ≤ b ∧ b < w'.heap.size) ∧ Below w.heap.size w w'
def NewShrE (x : Int) (L : List Nat) (er : Int) (w : World) (e : Ending) (w' : World) : Prop :=
  ∃ A c, e = .returned (.tuple #[shV x (.slice A L.length c), .int .i64 er]) ∧ NatsAt w' A L ∧ SlOK A c L ∧ (∀ b off, A = some ⟨b, off, none⟩ → w.heap.size ≤ b ∧ b < w'.heap.size) ∧ Below w.heap.size w w'
theorem results_shr {fn : Func} {t : Tmp} (h : fn.results = #[.cell t 53]) (tmps : Array Value) (w : World) (g : Nat) (hp : tmps.getD t undef = .pointer (some ⟨g, 0, none⟩)) {x : Int} {v : Value} (hX : ShCell w g x v) :
    (results fn tmps).run Tryd.prog w = .ok (shV x v) w :=
  results_cell_row h tmps w g 53 _ (0, 0) _ hp hX Tryd.underlying53 rfl (by kernel_rfl)
theorem results_shr2 {fn : Func} {t u : Tmp} (h : fn.results = #[.cell t 53, .tmp u]) (tmps : Array Value) (w : World) (g : Nat) (hp : tmps.getD t undef = .pointer (some ⟨g, 0, none⟩)) {x : Int} {v : Value} (hX : ShCell w g x v) :
    (results fn tmps).run Tryd.prog w = .ok (.tuple #[shV x v, tmps.getD u undef]) w := by
  have hp' : tmps[t]?.getD undef = .pointer (some ⟨g, 0, none⟩) := by simpa using hp
  have hr := run_loadVar_row (P := Tryd.prog) w g 53 53 _ (0, 0) _ hX Tryd.underlying53 rfl (by kernel_rfl)
  simp [results, h, hp', asAddr, hr]
theorem linear_list (p : Nat) (A B : Option Addr) (L M : List Nat) (ca cb c : Nat) (w : World) (hp : 1 ≤ p) (hp2 : p ≤ 2147483648) (hA : NatsAt w A L) (hB : NatsAt w B M)
    (hL : ∀ x ∈ L, x < p) (hM : ∀ x ∈ M, x < p) (hc : c < p) (hl : L.length ≤ 1073741824) (hm : M.length ≤ 1073741824) :
    Calls Tryd.prog 77 #[.int .i64 p, .slice A L.length ca, .slice B M.length cb, .int .i64 c] w (NewList (linN p L M c) w) :=
  (linear_any p A B L M ca cb c w hp hp2 hA hB hL hM hc hl hm).mono fun _ _ h => h.list (by rw [linN_len]; unfold maxLen; omega)
theorem ShCell.lt {w : World} {g : Nat} {x : Int} {v : Value} (H : ShCell w g x v) : g < w.heap.size := blk_lt H
theorem keep_set2 {w : World} {g a b : Nat} {u v : Value} {q : Addr} {x : Value} (hq : q.block ≠ g) (h : w.cell? q = some x) : ((w.setCell ⟨g, a, none⟩ u).setCell ⟨g, b, none⟩ v).cell? q = some x :=
  ((World.cell?_setCell_other _ _ _ _ (fun e => hq (by subst e; rfl))).trans (World.cell?_setCell_other _ _ _ _ (fun e => hq (by subst e; rfl)))).trans h
theorem size_set2 {w : World} {a b : Addr} {u v : Value} : ((w.setCell a u).setCell b v).heap.size = w.heap.size := by simp [World.setCell]
theorem shcell_fill {w : World} {g : Nat} {x : Int} {v : Value} (H : ShCell w g x v) (y : Int) (u : Value) : ShCell ((w.setCell ⟨g, 0, none⟩ (.int .i64 y)).setCell ⟨g, 1, none⟩ u) g y u := (H.set0 y).set1 u
theorem nats_set2 {w : World} {g a b : Nat} {u v : Value} {A : Option Addr} {L : List Nat} (h : NatsAt w A L) (hA : ∀ b off, A = some ⟨b, off, none⟩ → b ≠ g) : NatsAt ((w.setCell ⟨g, a, none⟩ u).setCell ⟨g, b, none⟩ v) A L := fun k hk => by
  obtain ⟨b1, off, e, hlt, hc⟩ := h k hk
  exact ⟨b1, off, e, by rw [size_set2]; exact hlt, keep_set2 (hA b1 off e) hc⟩
theorem below_set2 {w w' : World} {B g a b : Nat} (h : Below B w w') (hg : B ≤ g) (u v : Value) : Below B w ((w'.setCell ⟨g, a, none⟩ u).setCell ⟨g, b, none⟩ v) :=
  ⟨h.os, h.tape, h.output, by rw [size_set2]; exact h.size, fun k hk => ((Below.heap_setCell _ _ _ k (by dsimp only; omega)).trans (Below.heap_setCell _ _ _ k (by dsimp only; omega))).trans (h.block k hk)⟩
/-- The plan, both shares, the result. -/
structure AddW (w w' : World) (p n h x : Int) (v : Value) (y : Int) (u : Value) : Prop where
  pl : PlanCell w' w.heap.size p n h
  a : ShCell w' (w.heap.size + 1) x v
  b : ShCell w' (w.heap.size + 1 + 1) y u
  r : ShCell w' (w.heap.size + 1 + 1 + 1) 0 (.slice none 0 0)
  be : Below w.heap.size w w'
theorem AddW.below {w w' w2 : World} {p n h x : Int} {v : Value} {y : Int} {u : Value} (H : AddW w w' p n h x v y u) (hb : Below w'.heap.size w' w2) : AddW w w2 p n h x v y u :=
  ⟨H.pl.below hb, H.a.below hb, H.b.below hb, H.r.below hb, below_trans H.be hb⟩
theorem AddW.start (w : World) (p n h x : Int) (v : Value) (y : Int) (u : Value) : AddW w ((((w.alloc (.cells #[.int .i64 p, .int .i64 n, .int .i64 h] 28)).alloc (.cells #[.int .i64 x, v] 53)).alloc (.cells #[.int .i64 y, u] 53)).alloc (.cells #[.int .i64 0, .slice none 0 0] 53)) p n h x v y u :=
  ⟨(((PlanCell.new _ _ _ rfl).alloc _).alloc _).alloc _, ((ShCell.new _ _ (by simp)).alloc _).alloc _, (ShCell.new _ _ (by simp)).alloc _, ShCell.new _ _ (by simp),
    below_trans (below_trans (below_trans (below_alloc _ _) (below_alloc _ _)) (below_alloc _ _)) (below_alloc _ _)⟩
theorem AddW.bases {w : World} {a b c d : Obj} (hB : Bases w) : Bases ((((w.alloc a).alloc b).alloc c).alloc d) :=
  hB.below (below_trans (below_trans (below_trans (below_alloc w a) (below_alloc _ b)) (below_alloc _ c)) (below_alloc _ d)) hB.1
def AdP (p n h x y : Int) (L M : List Int) : Prop := plB p n h = true ∧ stB p h x L = true ∧ stB p h y M = true ∧ x = y ∧ L.length = M.length
instance (p n h x y : Int) (L M : List Int) : Decidable (AdP p n h x y L M) := by unfold AdP; exact inferInstance
def adE (p n h x y : Int) (L M : List Int) : Int := if AdP p n h x y L M then 0 else 1
def adX (p n h x y : Int) (L M : List Int) : Int := if AdP p n h x y L M then x else 0
def adL (p n h x y : Int) (L M : List Int) : List Nat := if AdP p n h x y L M then linN p.toNat (L.map Int.toNat) (M.map Int.toNat) 1 else []
theorem adE_ok {p n h x y : Int} {L M : List Int} (H : AdP p n h x y L M) : adE p n h x y L M = 0 := if_pos H
theorem adX_ok {p n h x y : Int} {L M : List Int} (H : AdP p n h x y L M) : adX p n h x y L M = x := if_pos H
theorem adL_ok {p : Nat} {n h x y : Int} {L M : List Int} (H : AdP p n h x y L M) : adL p n h x y L M = linN p (L.map Int.toNat) (M.map Int.toNat) 1 := if_pos H
theorem ad_no {p n h x y : Int} {L M : List Int} (H : ¬ AdP p n h x y L M) : adE p n h x y L M = 1 ∧ adX p n h x y L M = 0 ∧ adL p n h x y L M = [] := ⟨if_neg H, if_neg H, if_neg H⟩
theorem NewShrE.no {w w' : World} (hb : Below w.heap.size w w') : NewShrE 0 [] 1 w (.returned (.tuple #[shV 0 (.slice none 0 0), .int .i64 1])) w' :=
  ⟨none, 0, rfl, NatsAt.nil _ _, SlOK.none0, fun _ _ e => (by cases e), hb⟩
theorem plB_nat {p n h : Int} (H : plB p n h = true) (hv : primeV p = validI p) : ∃ q : Nat, p = (q : Int) ∧ 1 ≤ q ∧ q ≤ 2147483648 := by
  obtain ⟨q, h1, h2, h3⟩ := plan_prime (of_decide_eq_true H) hv
  have := h2.1
  exact ⟨q, h1, by omega, by omega⟩
theorem plB_two {p : Nat} {n h : Int} (H : plB p n h = true) : 1 < p := by
  have : PlanP p n h := of_decide_eq_true H
  obtain ⟨h1, h2, h3, h4, -⟩ := this
  omega
theorem plB_pv {p n h : Int} (H : plB p n h = true) (hv : primeV p = validI p) : primeV p = true := by
  have : PlanP p n h := of_decide_eq_true H
  rw [hv]; exact this.2.2.2.2

set_option maxRecDepth 100000 in
set_option maxHeartbeats 4000000 in
theorem addS_ok (p : Nat) (n h x : Int) (B B' : Option Addr) (L M : List Nat) (cb cb' k : Nat) (w : World) (hp1 : 1 ≤ p) (hp2 : p ≤ 2147483648) (_ : primeV p = validI p) (hB : Bases w) (hpl : plB p n h = true) (hsa : stB p h x (ofN L) = true) (hsb : stB p h x (ofN M) = true) (hkL : k = L.length) (hkM : k = M.length) (hLp : ∀ y ∈ L, y < p) (hMp : ∀ y ∈ M, y < p) (hI : IntsAt w B (ofN L)) (hJ : IntsAt w B' (ofN M)) (hl : k ≤ 1048576) :
    Calls Tryd.prog 62 #[planV p n h, shV x (.slice B k cb), shV x (.slice B' k cb')] w (NewShrE x (linN p L M 1) 0 w) := by
  have HI := Lib.hid hI
  have HJ := Lib.hid hJ
  have HLp := Lib.hid hLp
  have HMp := Lib.hid hMp
  have HB := Lib.hid hB
  clear hB
  have HV := Lib.hid (fun (W : World) (hB : Bases W) => by have := valid_plan p n h W hB; rw [hpl] at this; exact this)
  have HSA := Lib.hid (fun (W : World) (hI : IntsAt W B (ofN L)) => by have := stands_any p n h x B (ofN L) cb W hI (by rw [len_ofN]; omega); rw [hsa, len_ofN, ← hkL] at this; exact this)
  have HSB := Lib.hid (fun (W : World) (hI : IntsAt W B' (ofN M)) => by have := stands_any p n h x B' (ofN M) cb' W hI (by rw [len_ofN]; omega); rw [hsb, len_ofN, ← hkM] at this; exact this)
  have HKL := Lib.hid hkL
  have HKM := Lib.hid hkM
  have hLl : L.length ≤ 1048576 := by omega
  have hMl : M.length ≤ 1048576 := by omega
  have h1p : 1 < p := plB_two hpl
  clear hI hJ hLp hMp hkL hkM
  have HLIN := Lib.hid (fun (W : World) (h1 : NatsAt W B L) (h2 : NatsAt W B' M) => by have := linear_list p B B' L M cb cb' 1 W hp1 hp2 h1 h2 HLp.out HMp.out h1p (by omega) (by omega); rw [← HKL.out, ← HKM.out] at this; exact this)
  go_enter Tryd.func62, Tryd.ntmps62
  go_wp2_with fail
  refine ret_below (HV.out _ (AddW.bases HB.out)) ?_
  intro w2 hb2
  have HW2 := Lib.hid ((AddW.start w _ _ _ _ _ _ _).below hb2)
  have x20 := HW2.out.pl.c0
  have x21 := HW2.out.pl.c1
  have x22 := HW2.out.pl.c2
  have x23 := HW2.out.a.c0
  have x24 := HW2.out.a.c1
  have x25 := HW2.out.b.c0
  have x26 := HW2.out.b.c1
  clear hb2
  go_wp2_with fail
  refine ret_below (HSA.out _ (HI.out.below HW2.out.be)) ?_
  intro w3 hb3
  have HW3 := Lib.hid (HW2.out.below hb3)
  have x30 := HW3.out.pl.c0
  have x31 := HW3.out.pl.c1
  have x32 := HW3.out.pl.c2
  have x33 := HW3.out.a.c0
  have x34 := HW3.out.a.c1
  have x35 := HW3.out.b.c0
  have x36 := HW3.out.b.c1
  clear x20 x21 x22 x23 x24 x25 x26
  clear hb3
  go_wp2_with fail
  refine ret_below (HSB.out _ (HJ.out.below HW3.out.be)) ?_
  intro w4 hb4
  have HW4 := Lib.hid (HW3.out.below hb4)
  have x40 := HW4.out.pl.c0
  have x41 := HW4.out.pl.c1
  have x42 := HW4.out.pl.c2
  have x43 := HW4.out.a.c0
  have x44 := HW4.out.a.c1
  have x45 := HW4.out.b.c0
  have x46 := HW4.out.b.c1
  clear x30 x31 x32 x33 x34 x35 x36
  clear hb4
  have hlt := HW4.out.r.lt
  have f0 := HW4.out.r.frozen 0
  have f1 := HW4.out.r.frozen 1
  have r0 := HW4.out.r.c0
  have r1 := HW4.out.r.c1
  go_wp2_with fail
  go_region_held3 (fun w' => w'.cell? ⟨w.heap.size, 0, none⟩ = some (.int .i64 (p : Int)) ∧ w'.cell? ⟨w.heap.size + 1, 0, none⟩ = some (.int .i64 x) ∧ w'.cell? ⟨w.heap.size + 1, 1, none⟩ = some (.slice B k cb) ∧ w'.cell? ⟨w.heap.size + 1 + 1, 1, none⟩ = some (.slice B' k cb')) (first | (go_keep; done) | (refine ⟨?_, ?_, ?_, ?_⟩ <;> (first | (go_keep; done) | (refine keep_set2 (by dsimp only; omega) ?_; assumption) | (refine keep_set2 (by dsimp only; omega) ?_; go_keep))))
    ((go_at_call 77; refine (HLIN.out _ ((HI.out.below HW4.out.be).nats.below (below_drewT _)) ((HJ.out.below HW4.out.be).nats.below (below_drewT _))).mono ?_; intro e w5 he; obtain ⟨A6, c6, rfl, hN6, hS6, hO6, hb6⟩ := he.open_; have hb5 : Below w4.heap.size w4 w5 := (below_undrew1 hb6); have HW5 := Lib.hid (HW4.out.below hb5); have x50 := HW5.out.pl.c0; have x51 := HW5.out.pl.c1; have x52 := HW5.out.pl.c2; have x53 := HW5.out.a.c0; have x54 := HW5.out.a.c1; have x55 := HW5.out.b.c0; have x56 := HW5.out.b.c1; have g0 := HW5.out.r.frozen 0; have g1 := HW5.out.r.frozen 1; have v0 := HW5.out.r.c0; have v1 := HW5.out.r.c1; have hO6' : ∀ b off, A6 = some ⟨b, off, none⟩ → w4.heap.size ≤ b ∧ b < w5.heap.size := (fun b off e => by have := hO6 b off e; rw [World.size_drew] at this; exact this)))
  go_wp2_with fail
  refine bodyPost_ret (results_shr2 rfl _ _ (w.heap.size + 1 + 1 + 1) rfl (shcell_fill HW5.out.r x _)) rfl ⟨A6, c6, rfl, nats_set2 hN6 (fun b off e => by have := hO6' b off e; omega), hS6, fun b off e => ?_, ?_⟩
  · have := hO6' b off e
    rw [size_set2]
    exact ⟨Nat.le_trans HW4.out.be.size this.1, this.2⟩
  · exact below_set2 HW5.out.be (by omega) _ _

set_option maxRecDepth 100000 in
set_option maxHeartbeats 4000000 in
theorem addS_any (p n h x y : Int) (B B' : Option Addr) (L M : List Int) (cb cb' : Nat) (w : World) (hv : primeV p = validI p) (hB : Bases w) (hI : IntsAt w B L) (hJ : IntsAt w B' M) (hl : L.length ≤ 1048576) (hm : M.length ≤ 1048576) :
    Calls Tryd.prog 62 #[planV p n h, shV x (.slice B L.length cb), shV y (.slice B' M.length cb')] w (NewShrE (adX p n h x y L M) (adL p n h x y L M) (adE p n h x y L M) w) := by
  by_cases hok : AdP p n h x y L M
  · have hok' := hok
    obtain ⟨hpl, hsa, hsb, rfl, hlen⟩ := hok
    obtain ⟨q, rfl, hq1, hq2⟩ := plB_nat hpl hv
    have h1 := inside_nat (stB_bd hsa).2.2
    have h2 := inside_nat (stB_bd hsb).2.2
    have := addS_ok q n h x B B' (L.map Int.toNat) (M.map Int.toNat) cb cb' L.length w hq1 hq2 hv hB hpl (by rw [h1.1]; exact hsa) (by rw [h2.1]; exact hsb) (by simp) (by simpa using hlen) h1.2 h2.2 (by rw [h1.1]; exact hI) (by rw [h2.1]; exact hJ) hl
    rw [adX_ok hok', adL_ok hok', adE_ok hok', ← hlen]
    exact this
  · have HE := Lib.hid (ad_no hok)
    have HI := Lib.hid hI
    have HJ := Lib.hid hJ
    have HB := Lib.hid hB
    clear hB
    by_cases hpl : plB p n h = true
    · by_cases hsa : stB p h x L = true
      · by_cases hsb : stB p h y M = true
        · by_cases hxy : x = y
          · subst hxy
            have hlen : ¬ L.length = M.length := fun e => hok ⟨hpl, hsa, hsb, rfl, e⟩
            have HV := Lib.hid (fun (W : World) (hB : Bases W) => by have := valid_plan p n h W hB; rw [hpl] at this; exact this)
            have HSA := Lib.hid (fun (W : World) (hI : IntsAt W B L) => by have := stands_any p n h x B L cb W hI (by omega); rw [hsa] at this; exact this)
            have HSB := Lib.hid (fun (W : World) (hI : IntsAt W B' M) => by have := stands_any p n h x B' M cb' W hI (by omega); rw [hsb] at this; exact this)
            clear hI hJ
            go_enter Tryd.func62, Tryd.ntmps62
            go_wp2_with fail
            refine ret_below (HV.out _ (AddW.bases HB.out)) ?_
            intro w2 hb2
            have HW2 := Lib.hid ((AddW.start w _ _ _ _ _ _ _).below hb2)
            have x20 := HW2.out.pl.c0
            have x21 := HW2.out.pl.c1
            have x22 := HW2.out.pl.c2
            have x23 := HW2.out.a.c0
            have x24 := HW2.out.a.c1
            have x25 := HW2.out.b.c0
            have x26 := HW2.out.b.c1
            clear hb2
            go_wp2_with fail
            refine ret_below (HSA.out _ (HI.out.below HW2.out.be)) ?_
            intro w3 hb3
            have HW3 := Lib.hid (HW2.out.below hb3)
            have x30 := HW3.out.pl.c0
            have x31 := HW3.out.pl.c1
            have x32 := HW3.out.pl.c2
            have x33 := HW3.out.a.c0
            have x34 := HW3.out.a.c1
            have x35 := HW3.out.b.c0
            have x36 := HW3.out.b.c1
            clear x20 x21 x22 x23 x24 x25 x26
            clear hb3
            go_wp2_with fail
            refine ret_below (HSB.out _ (HJ.out.below HW3.out.be)) ?_
            intro w4 hb4
            have HW4 := Lib.hid (HW3.out.below hb4)
            have x40 := HW4.out.pl.c0
            have x41 := HW4.out.pl.c1
            have x42 := HW4.out.pl.c2
            have x43 := HW4.out.a.c0
            have x44 := HW4.out.a.c1
            have x45 := HW4.out.b.c0
            have x46 := HW4.out.b.c1
            clear x30 x31 x32 x33 x34 x35 x36
            clear hb4
            have hlt := HW4.out.r.lt
            have f0 := HW4.out.r.frozen 0
            have f1 := HW4.out.r.frozen 1
            have r0 := HW4.out.r.c0
            have r1 := HW4.out.r.c1
            go_wp2_with fail
            refine bodyPost_ret (results_shr2 rfl _ _ (w.heap.size + 1 + 1 + 1) rfl (shcell_fill HW4.out.r 0 _)) rfl ?_
            rw [HE.out.1, HE.out.2.1, HE.out.2.2]
            exact NewShrE.no (below_set2 HW4.out.be (by omega) _ _)
          · clear hok
            have HV := Lib.hid (fun (W : World) (hB : Bases W) => by have := valid_plan p n h W hB; rw [hpl] at this; exact this)
            have HSA := Lib.hid (fun (W : World) (hI : IntsAt W B L) => by have := stands_any p n h x B L cb W hI (by omega); rw [hsa] at this; exact this)
            have HSB := Lib.hid (fun (W : World) (hI : IntsAt W B' M) => by have := stands_any p n h y B' M cb' W hI (by omega); rw [hsb] at this; exact this)
            clear hI hJ
            go_enter Tryd.func62, Tryd.ntmps62
            go_wp2_with fail
            refine ret_below (HV.out _ (AddW.bases HB.out)) ?_
            intro w2 hb2
            have HW2 := Lib.hid ((AddW.start w _ _ _ _ _ _ _).below hb2)
            have x20 := HW2.out.pl.c0
            have x21 := HW2.out.pl.c1
            have x22 := HW2.out.pl.c2
            have x23 := HW2.out.a.c0
            have x24 := HW2.out.a.c1
            have x25 := HW2.out.b.c0
            have x26 := HW2.out.b.c1
            clear hb2
            go_wp2_with fail
            refine ret_below (HSA.out _ (HI.out.below HW2.out.be)) ?_
            intro w3 hb3
            have HW3 := Lib.hid (HW2.out.below hb3)
            have x30 := HW3.out.pl.c0
            have x31 := HW3.out.pl.c1
            have x32 := HW3.out.pl.c2
            have x33 := HW3.out.a.c0
            have x34 := HW3.out.a.c1
            have x35 := HW3.out.b.c0
            have x36 := HW3.out.b.c1
            clear x20 x21 x22 x23 x24 x25 x26
            clear hb3
            go_wp2_with fail
            refine ret_below (HSB.out _ (HJ.out.below HW3.out.be)) ?_
            intro w4 hb4
            have HW4 := Lib.hid (HW3.out.below hb4)
            have x40 := HW4.out.pl.c0
            have x41 := HW4.out.pl.c1
            have x42 := HW4.out.pl.c2
            have x43 := HW4.out.a.c0
            have x44 := HW4.out.a.c1
            have x45 := HW4.out.b.c0
            have x46 := HW4.out.b.c1
            clear x30 x31 x32 x33 x34 x35 x36
            clear hb4
            have hlt := HW4.out.r.lt
            have f0 := HW4.out.r.frozen 0
            have f1 := HW4.out.r.frozen 1
            have r0 := HW4.out.r.c0
            have r1 := HW4.out.r.c1
            go_wp2_with fail
            refine bodyPost_ret (results_shr2 rfl _ _ (w.heap.size + 1 + 1 + 1) rfl (shcell_fill HW4.out.r 0 _)) rfl ?_
            rw [HE.out.1, HE.out.2.1, HE.out.2.2]
            exact NewShrE.no (below_set2 HW4.out.be (by omega) _ _)
        · clear hok
          have hsb' : stB p h y M = false := by simpa using hsb
          have HV := Lib.hid (fun (W : World) (hB : Bases W) => by have := valid_plan p n h W hB; rw [hpl] at this; exact this)
          have HSA := Lib.hid (fun (W : World) (hI : IntsAt W B L) => by have := stands_any p n h x B L cb W hI (by omega); rw [hsa] at this; exact this)
          have HSB := Lib.hid (fun (W : World) (hI : IntsAt W B' M) => by have := stands_any p n h y B' M cb' W hI (by omega); rw [hsb'] at this; exact this)
          clear hI hJ
          go_enter Tryd.func62, Tryd.ntmps62
          go_wp2_with fail
          refine ret_below (HV.out _ (AddW.bases HB.out)) ?_
          intro w2 hb2
          have HW2 := Lib.hid ((AddW.start w _ _ _ _ _ _ _).below hb2)
          have x20 := HW2.out.pl.c0
          have x21 := HW2.out.pl.c1
          have x22 := HW2.out.pl.c2
          have x23 := HW2.out.a.c0
          have x24 := HW2.out.a.c1
          have x25 := HW2.out.b.c0
          have x26 := HW2.out.b.c1
          clear hb2
          go_wp2_with fail
          refine ret_below (HSA.out _ (HI.out.below HW2.out.be)) ?_
          intro w3 hb3
          have HW3 := Lib.hid (HW2.out.below hb3)
          have x30 := HW3.out.pl.c0
          have x31 := HW3.out.pl.c1
          have x32 := HW3.out.pl.c2
          have x33 := HW3.out.a.c0
          have x34 := HW3.out.a.c1
          have x35 := HW3.out.b.c0
          have x36 := HW3.out.b.c1
          clear x20 x21 x22 x23 x24 x25 x26
          clear hb3
          go_wp2_with fail
          refine ret_below (HSB.out _ (HJ.out.below HW3.out.be)) ?_
          intro w4 hb4
          have HW4 := Lib.hid (HW3.out.below hb4)
          have x40 := HW4.out.pl.c0
          have x41 := HW4.out.pl.c1
          have x42 := HW4.out.pl.c2
          have x43 := HW4.out.a.c0
          have x44 := HW4.out.a.c1
          have x45 := HW4.out.b.c0
          have x46 := HW4.out.b.c1
          clear x30 x31 x32 x33 x34 x35 x36
          clear hb4
          have hlt := HW4.out.r.lt
          have f0 := HW4.out.r.frozen 0
          have f1 := HW4.out.r.frozen 1
          have r0 := HW4.out.r.c0
          have r1 := HW4.out.r.c1
          go_wp2_with fail
          refine bodyPost_ret (results_shr2 rfl _ _ (w.heap.size + 1 + 1 + 1) rfl (shcell_fill HW4.out.r 0 _)) rfl ?_
          rw [HE.out.1, HE.out.2.1, HE.out.2.2]
          exact NewShrE.no (below_set2 HW4.out.be (by omega) _ _)
      · clear hok
        have hsa' : stB p h x L = false := by simpa using hsa
        have HV := Lib.hid (fun (W : World) (hB : Bases W) => by have := valid_plan p n h W hB; rw [hpl] at this; exact this)
        have HSA := Lib.hid (fun (W : World) (hI : IntsAt W B L) => by have := stands_any p n h x B L cb W hI (by omega); rw [hsa'] at this; exact this)
        clear hI hJ
        go_enter Tryd.func62, Tryd.ntmps62
        go_wp2_with fail
        refine ret_below (HV.out _ (AddW.bases HB.out)) ?_
        intro w2 hb2
        have HW2 := Lib.hid ((AddW.start w _ _ _ _ _ _ _).below hb2)
        have x20 := HW2.out.pl.c0
        have x21 := HW2.out.pl.c1
        have x22 := HW2.out.pl.c2
        have x23 := HW2.out.a.c0
        have x24 := HW2.out.a.c1
        have x25 := HW2.out.b.c0
        have x26 := HW2.out.b.c1
        clear hb2
        go_wp2_with fail
        refine ret_below (HSA.out _ (HI.out.below HW2.out.be)) ?_
        intro w3 hb3
        have HW3 := Lib.hid (HW2.out.below hb3)
        have x30 := HW3.out.pl.c0
        have x31 := HW3.out.pl.c1
        have x32 := HW3.out.pl.c2
        have x33 := HW3.out.a.c0
        have x34 := HW3.out.a.c1
        have x35 := HW3.out.b.c0
        have x36 := HW3.out.b.c1
        clear x20 x21 x22 x23 x24 x25 x26
        clear hb3
        have hlt := HW3.out.r.lt
        have f0 := HW3.out.r.frozen 0
        have f1 := HW3.out.r.frozen 1
        have r0 := HW3.out.r.c0
        have r1 := HW3.out.r.c1
        go_wp2_with fail
        refine bodyPost_ret (results_shr2 rfl _ _ (w.heap.size + 1 + 1 + 1) rfl (shcell_fill HW3.out.r 0 _)) rfl ?_
        rw [HE.out.1, HE.out.2.1, HE.out.2.2]
        exact NewShrE.no (below_set2 HW3.out.be (by omega) _ _)
    · clear hok
      have hpl' : plB p n h = false := by simpa using hpl
      have HV := Lib.hid (fun (W : World) (hB : Bases W) => by have := valid_plan p n h W hB; rw [hpl'] at this; exact this)
      clear hI hJ
      go_enter Tryd.func62, Tryd.ntmps62
      go_wp2_with fail
      refine ret_below (HV.out _ (AddW.bases HB.out)) ?_
      intro w2 hb2
      have HW2 := Lib.hid ((AddW.start w _ _ _ _ _ _ _).below hb2)
      have x20 := HW2.out.pl.c0
      have x21 := HW2.out.pl.c1
      have x22 := HW2.out.pl.c2
      have x23 := HW2.out.a.c0
      have x24 := HW2.out.a.c1
      have x25 := HW2.out.b.c0
      have x26 := HW2.out.b.c1
      clear hb2
      have hlt := HW2.out.r.lt
      have f0 := HW2.out.r.frozen 0
      have f1 := HW2.out.r.frozen 1
      have r0 := HW2.out.r.c0
      have r1 := HW2.out.r.c1
      go_wp2_with fail
      refine bodyPost_ret (results_shr2 rfl _ _ (w.heap.size + 1 + 1 + 1) rfl (shcell_fill HW2.out.r 0 _)) rfl ?_
      rw [HE.out.1, HE.out.2.1, HE.out.2.2]
      exact NewShrE.no (below_set2 HW2.out.be (by omega) _ _)

end Go.Proofs.YtlhipgejiacklaaDoor
namespace Go.Proofs.YtlhipgejiacklaaDoor
open Go.RowKit

/-! ### Sums -/
theorem cg_evs {p x : Nat} (L : List Nat) (n : Nat) (h : L.length ≤ n) : Cg p (evN p L x : Nat) (sumI n fun k => (nthN L k : Int) * x ^ k) := (cg_ev p x L).trans (.of_eq (evalZ_sum x L n h))
theorem ev_lin {p : Nat} (hp : 1 ≤ p) (F G : List Nat) (c x : Nat) : evN p (linN p F G c) x = fadd p (evN p F x) (fmul p c (evN p G x)) := by
  refine Cg.nat ((cg_evs (linN p F G c) (max F.length G.length) (by rw [linN_len]; exact Nat.le_refl _)).trans ?_) (evN_lt hp _ _) (fadd_lt hp _ _)
  refine (sumI_cg (g := fun k => (nthN F k : Int) * x ^ k + c * ((nthN G k : Int) * x ^ k)) _ fun k hk => ?_).trans ?_
  · rw [linN_nth hk]
    refine (((cg_add p _ _).trans ((Cg.refl p _).add (cg_mul p _ _))).mul (Cg.refl p _)).trans (.of_eq (by grind))
  · rw [sumI_add, sumI_mul]
    exact ((cg_add p _ _).trans ((cg_evs F _ (Nat.le_max_left _ _)).add ((cg_mul p _ _).trans ((Cg.refl p _).mul (cg_evs G _ (Nat.le_max_right _ _)))))).symm
theorem lin_one {p y : Nat} (h : y < p) : fmul p 1 (fadd p 0 y) = y := by unfold fmul fadd; rw [Nat.one_mul, Nat.zero_add, Nat.mod_mod, Nat.mod_eq_of_lt h]
theorem lin0_len {p c : Nat} {M : List Nat} : (linN p [] M c).length = M.length := by rw [linN_len]; simp
def sumV (p : Nat) (L M : List Nat) (c : Nat) : List Nat := linN p L (linN p [] M c) 1
theorem sumV_len {p c : Nat} {L M : List Nat} (h : L.length = M.length) : (sumV p L M c).length = L.length := by simp [sumV, linN_len, h]
theorem sumV_nth {p c i : Nat} {L M : List Nat} (hp : 1 ≤ p) (h : L.length = M.length) (hi : i < L.length) : nthN (sumV p L M c) i = fadd p (nthN L i) (fmul p c (nthN M i)) := by
  unfold sumV
  rw [linN_nth (by rw [linN_len]; omega), linN_nth (by simp; omega), nthN_nil, lin_one (fmul_lt hp _ _)]
/-- The shares N and c times M. -/
def addT (p c : Nat) (N M : List ShN) : List ShN := (List.range N.length).map fun k => (hN N k, sumV p (vN N k) (vN M k) c)
theorem addT_len (p c : Nat) (N M : List ShN) : (addT p c N M).length = N.length := by simp [addT]
theorem addT_at {p c k : Nat} {N M : List ShN} (h : k < N.length) : hN (addT p c N M) k = hN N k ∧ vN (addT p c N M) k = sumV p (vN N k) (vN M k) c := by
  simp [addT, hN, vN, List.getD_eq_getElem?_getD, h]
theorem addT_take {p c k : Nat} {N M : List ShN} (h : k < N.length) : (addT p c N M).take (k + 1) = (addT p c N M).take k ++ [(hN N k, sumV p (vN N k) (vN M k) c)] := by
  rw [List.take_succ_eq_append_getElem (by rw [addT_len]; exact h), getD_at (by rw [addT_len]; exact h), (addT_at h).1, (addT_at h).2]
theorem add_on {p h m c : Nat} {F G : Nat → List Nat} {N M : List ShN} (hp : 1 ≤ p) (H : OnP p h m F N) (K : OnP p h m G M) (hl : M.length = N.length) (hh : ∀ k, k < N.length → hN M k = hN N k) :
    OnP p h m (fun i => linN p (F i) (G i) c) (addT p c N M) := by
  refine ⟨fun s hs => ?_, ?_⟩
  · obtain ⟨k, hk, rfl⟩ := shl_mem hs
    rw [addT_len] at hk
    rw [(addT_at hk).1, (addT_at hk).2]
    obtain ⟨h1, h2, h3⟩ := H.at_ hk
    obtain ⟨-, -, k3⟩ := K.at_ (show k < M.length by omega)
    refine ⟨h1, h2, ?_⟩
    simp only
    rw [hh k hk] at k3
    have l1 : (vN N k).length = m := by rw [h3]; simp
    have l2 : (vN M k).length = m := by rw [k3]; simp
    refine extN (by rw [sumV_len (by omega)]; simp [l1]) fun i hi => ?_
    rw [sumV_len (by omega)] at hi
    rw [sumV_nth hp (by omega) hi, h3, k3, nthN_eq (by simpa [l1] using hi), nthN_eq (by simpa [l1] using hi), nthN_eq (by simpa [l1] using hi)]
    simp [ev_lin hp]
  · refine nodup_hsN fun k hk j hj => ?_
    rw [addT_len] at hk
    rw [(addT_at hk).1, (addT_at (show j < N.length by omega)).1]
    exact (hsN_ne H.nd (show j < N.length by omega) hk (by omega))
theorem Made.add {p n h c : Nat} {a b : List Nat} {N M : List ShN} (hp : 1 ≤ p) (H : Made p n h a N) (K : Made p n h b M) (hab : a.length = b.length) (hl : M.length = N.length) (hh : ∀ k, k < N.length → hN M k = hN N k) :
    Made p n h (linN p a b c) (addT p c N M) := by
  obtain ⟨F, h1, h2, h3⟩ := H.ex
  obtain ⟨G, k1, k2, k3⟩ := K.ex
  have hle : (linN p a b c).length = a.length := by rw [linN_len]; omega
  rw [← hab] at k1 k2
  refine ⟨fun i => linN p (F i) (G i) c, by rw [hle]; exact add_on hp h1 k1 hl hh, fun i hi => ?_, ?_⟩
  · rw [hle] at hi
    have := h2 i hi; have := k2 i hi
    rw [linN_len]; omega
  · refine extN (by simp) fun i hi => ?_
    have hi' : i < a.length := by simpa [hle] using hi
    have e1 : nthN a i = evN p (F i) 0 := by
      conv => lhs; rw [← h3]
      rw [nthN_eq (by simpa using hi')]; simp
    have e2 : nthN b i = evN p (G i) 0 := by
      conv => lhs; rw [← k3]
      rw [nthN_eq (by simp; omega)]; simp
    rw [nthN_eq hi, linN_nth (by omega), e1, e2]
    simp [ev_lin hp]
theorem deal_hold {p n h k : Nat} {a b ra rb : List Nat} (hk : k < (dealN p n h a ra).length) : hN (dealN p n h b rb) k = hN (dealN p n h a ra) k := by
  rw [deal_len] at hk
  unfold dealN
  rw [(dealtT_at hk).1, (dealtT_at hk).1]

theorem random_nat (p n h q rl : Nat) (w : World) (hrl : rl = q * (n - 1)) (hn : 1 ≤ n) (hn2 : n ≤ 1000) (hq : q ≤ 1048576) :
    Calls Tryd.prog 83 #[planV p n h, .int .i64 (q : Int)] w (RetB (.int .i64 (rl : Int)) w) := by
  have := random_any p n h q w (by omega) (by omega) (by omega) (by omega)
  rw [show (q : Int) * ((n : Int) - 1) = ((rl : Nat) : Int) from by rw [hrl, show ((n : Int) - 1) = ((n - 1 : Nat) : Int) by omega]; push_cast; rfl] at this
  exact this
theorem gen_calls {P : Program} {f : FuncId} {args : Array Value} {w : World} {Q : Ending → World → Prop} (h : ∀ w', w' = w → Calls P f args w' Q) : Calls P f args w Q := h w rfl
theorem deal_row {p n h k : Nat} {sec ran : List Nat} (hp : 1 ≤ p) (hk : k < h) : hN (dealN p n h sec ran) k = k + 1 ∧ (vN (dealN p n h sec ran) k).length = sec.length ∧ ∀ y ∈ vN (dealN p n h sec ran) k, y < p := by
  unfold dealN
  rw [(dealtT_at hk).1, (dealtT_at hk).2]
  refine ⟨rfl, by simp, fun y hy => ?_⟩
  obtain ⟨i, -, rfl⟩ := List.mem_map.1 hy
  exact evN_lt hp _ _

/-! ### A share that a call returned, laid into a variable: the variable is made before or behind the call -/
theorem bl_refl (w : World) : Below w.heap.size w w := Below.refl _ w
theorem bl_drew {w0 w : World} (h : Below w0.heap.size w0 w) : Below w0.heap.size w0 w.drew := h.drew
theorem bl_alloc {w0 w : World} (o : Obj) (h : Below w0.heap.size w0 w) : Below w0.heap.size w0 (w.alloc o) := below_trans h (below_alloc _ _)
abbrev shO : Obj := .cells #[.int .i64 0, .slice none 0 0] 53
structure ShNew (w0 w : World) (g : Nat) (x : Int) (A : Option Addr) (c : Nat) (L : List Nat) : Prop where
  cell : ShCell w g x (.slice A L.length c)
  nats : NatsAt w A L
  ok : SlOK A c L
  off : ∀ b off, A = some ⟨b, off, none⟩ → w0.heap.size ≤ b ∧ b < w.heap.size
  low : w0.heap.size ≤ g
  below : Below w0.heap.size w0 w
theorem ShNew.drew {w0 w : World} {g : Nat} {x : Int} {A : Option Addr} {c : Nat} {L : List Nat} (h : ShNew w0 w g x A c L) : ShNew w0 w.drew g x A c L := ⟨h.cell, h.nats, h.ok, h.off, h.low, h.below.drew⟩
theorem ShNew.early {w0 W w : World} {g : Nat} {x : Int} {A : Option Addr} {c : Nat} {L : List Nat} (hR : ShCell W g 0 (.slice none 0 0)) (hg : w0.heap.size ≤ g) (hW : Below w0.heap.size w0 W) (hb : Below W.heap.size W w) (hN : NatsAt w A L) (hS : SlOK A c L) (hO : ∀ b off, A = some ⟨b, off, none⟩ → W.heap.size ≤ b ∧ b < w.heap.size) :
    ShNew w0 ((w.setCell ⟨g, 0, none⟩ (.int .i64 x)).setCell ⟨g, 1, none⟩ (.slice A L.length c)) g x A c L := by
  have hl := hR.lt
  refine ⟨shcell_fill (hR.below hb) x _, nats_set2 hN (fun b off e => by have := hO b off e; omega), hS, fun b off e => ?_, hg, below_set2 (below_trans hW hb) hg _ _⟩
  rw [size_set2]
  have := hO b off e
  have := hW.size
  omega
theorem ShNew.late {w0 w : World} {x : Int} {A : Option Addr} {c : Nat} {L : List Nat} (hb : Below w0.heap.size w0 w) (hN : NatsAt w A L) (hS : SlOK A c L) (hO : ∀ b off, A = some ⟨b, off, none⟩ → w0.heap.size ≤ b ∧ b < w.heap.size) :
    ShNew w0 (w.alloc (.cells #[.int .i64 x, .slice A L.length c] 53)) w.heap.size x A c L :=
  ⟨ShCell.new _ _ rfl, hN.below (below_alloc _ _), hS, fun b off e => by rw [size_alloc]; have := hO b off e; omega, hb.size, bl_alloc _ hb⟩
theorem gen_last {α : Type} {f : α → World → Prop} {a : α} {w : World} (h : ∀ w', w' = w → f a w') : f a w := h w rfl

/-! ### Lists of shares under way -/
structure RowsV (Q : Nat → Prop) (w : World) (base : Nat) (v : Value) (S : List Shr) : Prop where
  ex : ∃ H : List HV, HvOwn w base v H ∧ H.length = S.length ∧ ∀ k, k < S.length → (hvAt H k).1 = hS S k ∧ ∃ B c, (hvAt H k).2 = .slice B (vS S k).length c ∧ IntsP (fun b => Q b ∧ v.ownBlock ≠ some b) w B c (vS S k)
theorem RowsV.nil (Q : Nat → Prop) (w : World) (base : Nat) : RowsV Q w base (.slice none 0 0) [] := ⟨[], HvOwn.nil _ _, rfl, fun k hk => absurd hk (by simp)⟩
theorem RowsV.kept {Q : Nat → Prop} {w w' : World} {base : Nat} {v : Value} {S : List Shr} {row : Option Nat} (h : RowsV Q w base v S) (hg : w.grownBy w' row) (h1 : v.ownBlock = none ∨ v.ownBlock ≠ row) (h2 : ∀ b, Q b → row ≠ some b) : RowsV Q w' base v S := by
  obtain ⟨H, e1, e2, e3⟩ := h.ex
  refine ⟨H, e1.kept hg h1, e2, fun k hk => ?_⟩
  obtain ⟨f1, B, c, f2, f3⟩ := e3 k hk
  exact ⟨f1, B, c, f2, f3.keep ⟨hg.size, fun b hb hlt => hg.block b hlt (fun e => h2 b hb.1 e.symm)⟩⟩
theorem RowsV.below {Q : Nat → Prop} {w w' : World} {base : Nat} {v : Value} {S : List Shr} (h : RowsV Q w base v S) (hb : Below w.heap.size w w') : RowsV Q w' base v S := by
  obtain ⟨H, e1, e2, e3⟩ := h.ex
  refine ⟨H, e1.below hb, e2, fun k hk => ?_⟩
  obtain ⟨f1, B, c, f2, f3⟩ := e3 k hk
  exact ⟨f1, B, c, f2, f3.keep (Kept.below hb)⟩
theorem RowsV.more {Q : Nat → Prop} {w w' : World} {base : Nat} {v v' : Value} {H : List HV} {S : List Shr} (e2 : H.length = S.length)
    (e3 : ∀ k, k < S.length → (hvAt H k).1 = hS S k ∧ ∃ B c, (hvAt H k).2 = .slice B (vS S k).length c ∧ IntsP (fun b => Q b ∧ v.ownBlock ≠ some b) w B c (vS S k))
    (x : Int) (L : List Int) {B : Option Addr} {c : Nat} (hI : IntsP (fun b => Q b ∧ v.ownBlock ≠ some b) w B c L) (hown : HvOwn w' base v' (H ++ [(x, .slice B L.length c)])) (hg : w.grownBy w' v.ownBlock)
    (hv : v'.ownBlock = v.ownBlock ∨ v'.ownBlock = some w.heap.size) : RowsV Q w' base v' (S ++ [(x, L)]) := by
  have key : ∀ {B : Option Addr} {c : Nat} {L : List Int}, IntsP (fun b => Q b ∧ v.ownBlock ≠ some b) w B c L → IntsP (fun b => Q b ∧ v'.ownBlock ≠ some b) w' B c L := fun hI =>
    ((hI.mono (Q := fun b => (Q b ∧ v'.ownBlock ≠ some b) ∧ v.ownBlock ≠ some b) (fun b hlt hb => ⟨⟨hb.1, fun e => by
      rcases hv with h | h
      · exact hb.2 (h ▸ e)
      · rw [h] at e; injection e with e; omega⟩, hb.2⟩)).keep (w' := w') ⟨hg.size, fun b hb hlt => hg.block b hlt (fun e => hb.2 e.symm)⟩).mono (fun b _ hb => hb.1)
  refine ⟨_, hown, by simp [e2], fun k hk => ?_⟩
  rcases Nat.lt_or_ge k S.length with h | h
  · obtain ⟨f1, B', c', f2, f3⟩ := e3 k h
    rw [hvAt_append (by omega), (hS_append h).1, (hS_append h).2]
    exact ⟨f1, B', c', f2, key f3⟩
  · obtain rfl : k = S.length := by simp at hk; omega
    rw [hS_last.1, hS_last.2]
    rw [show S.length = H.length from e2.symm, hvAt_last]
    exact ⟨rfl, B, c, rfl, key hI⟩
theorem RowsV.read {Q : Nat → Prop} {w : World} {base : Nat} {v : Value} {S : List Shr} (h : RowsV Q w base v S) : ∃ A c, v = .slice A S.length c ∧ ShP (fun b => base ≤ b ∨ Q b) w A c S := by
  obtain ⟨H, e1, e2, e3⟩ := h.ex
  rcases Nat.eq_zero_or_pos S.length with h0 | h0
  · have : S = [] := List.eq_nil_of_length_eq_zero h0
    subst this
    have hH : H = [] := List.eq_nil_of_length_eq_zero e2
    subst hH
    rcases e1.2 with ⟨rfl, -⟩ | ⟨g, cap, cur, rfl, hg, hh, hnc, hcm, hcs, htk⟩
    · exact ⟨none, 0, rfl, ShP.nil _ _⟩
    · exact ⟨_, cap, rfl, fun k hk => absurd hk (by simp), ⟨Nat.zero_le _, hcm, (fun e => by cases e), .inl rfl⟩⟩
  · obtain ⟨g, c, rfl, hg, hbg, hlc, hcm, hcell, -⟩ := e1.form (by rw [e2]; exact h0)
    refine ⟨some ⟨g, 0, none⟩, c, by rw [e2], fun k hk => ?_, ⟨by rw [← e2]; exact hlc, hcm, (fun e => by cases e), .inr (fun a e => by injection e with e; subst e; rfl)⟩⟩
    obtain ⟨f1, B, c', f2, f3⟩ := e3 k hk
    obtain ⟨c1, c2⟩ := hcell k (by rw [e2]; exact hk)
    refine ⟨g, 0, B, c', rfl, hg, .inl hbg, ?_, ?_, f3.mono (fun b _ hb => .inr hb.1)⟩
    · rw [Nat.zero_add, c1, f1]
    · rw [Nat.zero_add, c2, f2]
theorem ShNew.ints {wr w9 W : World} {base g : Nat} {x : Int} {v : Value} {A : Option Addr} {c : Nat} {L : List Nat} {S : List Shr} (h : ShNew wr w9 g x A c L) (hR : RowsV (fun b => base ≤ b) wr base v S) (hb : base ≤ wr.heap.size) (hw : Below w9.heap.size w9 W) :
    IntsP (fun b => base ≤ b ∧ v.ownBlock ≠ some b) W A c (ofN L) := by
  obtain ⟨H, e1, -, -⟩ := hR.ex
  refine ⟨(h.nats.below hw).ints, by rw [len_ofN]; exact h.ok.iok, fun b off e => .inr ⟨by have := h.off b off e; omega, fun e2 => ?_⟩⟩
  have := (World.ownsRow.lt e1 b e2).2
  have := h.off b off e
  omega
/-- One share more, that lies in a variable. -/
theorem RowsV.put {wr w9 W w4 : World} {base g : Nat} {x : Nat} {v v4 : Value} {A : Option Addr} {c : Nat} {L : List Nat} {T T' : List ShN} {H : List HV} (hR : RowsV (fun b => base ≤ b) wr base v (shL T)) (hN : ShNew wr w9 g x A c L) (hb : base ≤ wr.heap.size) (hW : W = w9.alloc (.cells #[.int .i64 (x : Int), .slice A L.length c] 53))
    (hH : HvOwn W base v H ∧ H.length = (shL T).length ∧ ∀ k, k < (shL T).length → (hvAt H k).1 = hS (shL T) k ∧ ∃ B c, (hvAt H k).2 = .slice B (vS (shL T) k).length c ∧ IntsP (fun b => base ≤ b ∧ v.ownBlock ≠ some b) W B c (vS (shL T) k))
    (hown : HvOwn w4 base v4 (H ++ [((x : Int), .slice A L.length c)])) (hg : W.grownBy w4 v.ownBlock) (hv : v4.ownBlock = v.ownBlock ∨ v4.ownBlock = some W.heap.size) (hT : T' = T ++ [(x, L)]) : RowsV (fun b => base ≤ b) w4 base v4 (shL T') := by
  subst hW hT
  rw [show shL (T ++ [(x, L)]) = shL T ++ [((x : Int), ofN L)] from by simp [shL, shI]]
  exact RowsV.more hH.2.1 hH.2.2 x (ofN L) (hN.ints hR hb (below_alloc _ _)) (by rw [len_ofN]; exact hown) hg hv
end Go.Proofs.YtlhipgejiacklaaDoor
namespace Go.Proofs.YtlhipgejiacklaaDoor
open Go.RowKit

attribute [local go_sem high] sliced_low
theorem elems_nat (p : Nat) (A : Option Addr) (L : List Nat) (c : Nat) (w : World) (hA : NatsAt w A L) (hl : L.length ≤ 1048576) (hL : ∀ x ∈ L, x < p) (hv : primeV p = true) :
    Calls Tryd.prog 68 #[.int .i64 p, .slice A L.length c] w (Ret (.bool true) w) := by
  have := elems_ref A (ofN L) c p w hA.ints (by rw [len_ofN]; omega)
  unfold elemsI at this
  rw [hv, Bool.and_true, show inside p (ofN L) = true from nat_inside hL, len_ofN] at this
  exact this
/-- The values that holder k + 1 gets. -/
def rowN (p n : Nat) (SN RN : List Nat) (x : Nat) : List Nat := (List.range SN.length).map fun i => evN p (polN SN RN (n - 1) i) x
theorem rowN_len (p n : Nat) (SN RN : List Nat) (x : Nat) : (rowN p n SN RN x).length = SN.length := by simp [rowN]
theorem rowN_take {p n x i : Nat} {SN RN : List Nat} (h : i < SN.length) : (rowN p n SN RN x).take (i + 1) = (rowN p n SN RN x).take i ++ [evN p (polN SN RN (n - 1) i) x] := by
  rw [List.take_succ_eq_append_getElem (by rw [rowN_len]; exact h)]; simp [rowN]
theorem deal_take {p n h k : Nat} {SN RN : List Nat} (hk : k < h) : (dealN p n h SN RN).take (k + 1) = (dealN p n h SN RN).take k ++ [(k + 1, rowN p n SN RN (k + 1))] := by
  have hk' : k < (dealN p n h SN RN).length := by rw [deal_len]; exact hk
  rw [List.take_succ_eq_append_getElem hk', getD_at hk']
  unfold dealN
  rw [(dealtT_at hk).1, (dealtT_at hk).2]; rfl
theorem take_len {L : List Nat} {n i : Nat} (h : L.length = n) (hi : i ≤ n) : (L.take i).length = i := by rw [List.length_take]; omega

theorem enter_refEval (args : Array Value) (w : World) : (callFunc 69 args).run Tryd.prog w = .ok (.enter 69 args) w :=
  Go.MuLone.run_callFunc_enter Tryd.func69 (by kernel_rfl) rfl args w
theorem step_refEval {ops : Array Oper} {o : Oper} {a : Act} {K : Act → World → Prop} {Q : Exit → Act → World → Prop} {E : Prop} {p y x : Nat} {F : Option Addr} {cf m : Nat} (W : World) (hgd : o.guard = none) (s1 s2 s3 : Operand) (ts : Array TypeId)
    (ho : o.op = .call { callee := .value (.func 69), args := #[s1, s2, s3], argTypes := ts }) (h1 : a.eval s1 = .int .i64 (p : Int)) (h2 : a.eval s2 = .slice F m cf) (h3 : a.eval s3 = .int .i64 (x : Int))
    (hc : Calls Tryd.prog 69 #[.int .i64 (p : Int), .slice F m cf, .int .i64 (x : Int)] W (RetB (.int .i64 (y : Int)) W)) (h : ∀ w', Below W.heap.size W w' → K (a.put o.dst (.int .i64 (y : Int))) w') :
    if Region.wanted o (yielded ops a.tmps) = true then Oper.wp Tryd.prog o a W K Q else E :=
  step_call W hgd _ _ ts ho enter_refEval _ (by simp [h1, h2, h3]) hc (fun e w' hr => by obtain ⟨rfl, hb⟩ := hr; exact ⟨_, rfl, h w' hb⟩)

set_option maxRecDepth 100000 in
set_option maxHeartbeats 4000000 in
theorem refDeal_k (p n h : Nat) (A B : Option Addr) (ca cb : Nat) (SN RN : List Nat) (w : World) (hq : PrimeN p) (hq2 : p ≤ 1073741824) (hv : primeV p = validI p) (hpl : plB p n h = true) (h1 : 1 ≤ n) (hkk : 2 ≤ n) (hnh : n ≤ h) (hh : h ≤ 16) (hhp : h < p) (hA : NatsAt w A SN) (hR : NatsAt w B RN) (hok : IOK B cb RN.length)
    (hs : ∀ x ∈ SN, x < p) (hr : ∀ x ∈ RN, x < p) (hl : RN.length = SN.length * (n - 1)) (hm : SN.length ≤ 2048) (hm2 : RN.length ≤ 1048576) :
    Calls Tryd.prog 31 #[planV p n h, .slice A SN.length ca, .slice B RN.length cb] w (ShErr (shL (dealN p n h SN RN)) 0 w) := by
  obtain ⟨k0, hk0⟩ : ∃ k0, k0 = n - 1 := ⟨_, rfl⟩
  have hk' : (n : Int) - 1 = (k0 : Int) := by omega
  have HVA := Lib.hid (fun (W : World) => show Calls Tryd.prog 63 #[planV p n h] W (RetB (.bool true) W) from by have := refValid_plan p n h W hv; rw [hpl] at this; exact this)
  have hpv : primeV p = true := plB_pv hpl hv
  have HES := Lib.hid (fun (W : World) (hb : Below w.heap.size w W) => elems_nat p A SN ca W (hA.below hb) (by omega) hs hpv)
  have HER := Lib.hid (fun (W : World) (hb : Below w.heap.size w W) => elems_nat p B RN cb W (hR.below hb) hm2 hr hpv)
  have HRN := Lib.hid (fun (W : World) => refRandom_any p n h SN.length W (by omega) (by omega) (by omega) (by omega))
  have HA := Lib.hid hA
  have HR := Lib.hid hR
  have HOK := Lib.hid hok
  have HSP := Lib.hid hs
  have HRP := Lib.hid hr
  have hle : (RN.length : Int) = SN.length * ((n : Int) - 1) := by rw [hl, hk', ← hk0]; push_cast; rfl
  have t2 : ((RN.length : Int) != (SN.length : Int) * ((n : Int) - 1)) = false := by simp [hle]
  have t1 : decide (2048 < (SN.length : Int)) = false := decide_eq_false (by omega)
  have HLE := Lib.hid (show RN.length = SN.length * k0 by rw [hk0]; exact hl)
  have HK0 := Lib.hid hk0
  have HKK := Lib.hid hkk
  have HKI := Lib.hid hk'
  have b0 : 1 ≤ p := by omega
  have hn7 : n ≤ 16 := by omega
  have hk8 : k0 ≤ 16 := by omega
  clear hA hR hok hs hr hl hle hk0 hkk hk' hv hpl hq hpv
  go_enter Tryd.func31, Tryd.ntmps31
  go_wp2_with fail
  refine ret_below (HVA.out _) ?_
  intro w1 hb1
  have hbw1 := below_trans (below_alloc _ _) hb1
  have HP := Lib.hid ((PlanCell.new (w := w) p n h rfl).below hb1)
  have p0 := HP.out.c0
  have p1 := HP.out.c1
  have p2 := HP.out.c2
  go_wp2_with fail
  refine ret_pure (HES.out _ hbw1) ?_
  go_wp2_with fail
  refine ret_pure (HER.out _ hbw1) ?_
  go_wp2_with fail
  refine ret_below (HRN.out _) ?_
  intro w4 hb4
  have hbw4 := below_trans hbw1 hb4
  have HP4 := Lib.hid (HP.out.below hb4)
  have p04 := HP4.out.c0
  have p14 := HP4.out.c1
  have p24 := HP4.out.c2
  have hpxl := HP4.out.lt
  clear p0 p1 p2 hb1 hb4 HVA HES HER HRN
  have ew : IntKind.i64.wrap ((n : Int) - 1) = (n : Int) - 1 := IntWalk.i64_in _ (by omega)
  go_wp2_with fail
  have HRM := Lib.hid (show ∀ i, i < SN.length → i * k0 + k0 ≤ RN.length from fun i hi => by rw [HLE.out]; exact part_bd hi)
  go_loopw [8, 10] (fun o i wr => ∃ k x : Nat, k ≤ h ∧ x = k + 1 ∧ i = .int .i64 x ∧ RowsV (fun b => w4.heap.size ≤ b) wr w4.heap.size o (shL ((dealN p n h SN RN).take k)) ∧ Below w4.heap.size w4 wr) (fun _ i _ => h + 1 - (intOf i).toNat)
  case atStart => exact ⟨0, 1, Nat.zero_le _, rfl, rfl, RowsV.nil _ _ _, Below.refl _ _⟩
  case round =>
    obtain ⟨k, x, hk, hx, rfl, hR, hbr⟩ := hrel
    obtain ⟨OA, oc, hv, hRd⟩ := hR.read
    have hlk : (shL ((dealN p n h SN RN).take k)).length = k := by rw [shL_len, List.length_take, deal_len]; omega
    rw [hlk] at hv
    subst hv
    have hsz := hbr.size
    have hbwo := below_trans hbw4 hbr
    have hPr := HP4.out.keep (hbr.block w.heap.size hpxl)
    have y0 := hPr.c0
    have y1 := hPr.c1
    have y2 := hPr.c2
    have hpxr := hPr.lt
    have HPr := Lib.hid hPr
    have HR' := Lib.hid hR
    have HLK := Lib.hid hlk
    have HRd := Lib.hid hRd
    have HXK := Lib.hid hx
    clear hR hlk hRd hPr p04 p14 p24
    by_cases hlt : k < h
    · have hxh : x ≤ h := by omega
      have HTK := Lib.hid (deal_take (p := p) (n := n) (SN := SN) (RN := RN) hlt)
      rw [← hx] at HTK
      clear hx
      obtain ⟨wo, rfl⟩ : ∃ wo : World, wo = wr := ⟨_, rfl⟩
      go_wp2_with fail
      refine gen_world fun w5 hw5 => ?_
      have hsc : ShCell w5 wo.heap.size x (.slice none 0 0) := by rw [hw5]; exact ShCell.new _ _ rfl
      have hb5 : Below wo.heap.size wo w5 := by rw [hw5]; exact below_alloc _ _
      have hz5 := hsc.lt
      have HSC := Lib.hid hsc
      clear hw5 hsc y0 y1 y2
      go_loopw [58] (fun j wr => ∃ (m : Nat) (v : Value), m ≤ SN.length ∧ j = .int .i64 m ∧ ShCell wr wo.heap.size x v ∧ wr.ownsRow w5.heap.size 3 1 v ((rowN p n SN RN x).take m).length (valsN ((rowN p n SN RN x).take m)) ∧ Below wo.heap.size wo wr ∧ w5.heap.size ≤ wr.heap.size) (fun j _ => SN.length - (intOf j).toNat)
      case atStart => exact ⟨0, _, Nat.zero_le _, rfl, HSC.out, World.ownsRow_nil _ _ _ _, hb5, Nat.le_refl _⟩
      case round =>
        obtain ⟨i, v, hi, rfl, hsc, hown, hbq0, hzq⟩ := hrel
        have hbq := below_trans hbwo hbq0
        have hPq := HPr.out.below hbq0
        have y0 := hPq.c0
        have y1 := hPq.c1
        have y2 := hPq.c2
        have s0 := hsc.c0
        have s1 := hsc.c1
        have lS := hsc.lt
        have hpq := hPq.lt
        have hwq := hbq0.size
        have HPq := Lib.hid hPq
        clear hPq
        have hrl : (rowN p n SN RN x).length = SN.length := rowN_len _ _ _ _ _
        by_cases hlt2 : i < SN.length
        · obtain ⟨VA, vc, rfl, -⟩ := own_sl hown rfl
          have HSQ := Lib.hid hsc
          have HOWN := Lib.hid hown
          clear hsc hown
          obtain ⟨bA, oA, rfl, hbA, hcA⟩ := (HA.out.below hbq) i hlt2
          have HTI := Lib.hid (rowN_take (p := p) (n := n) (x := x) (SN := SN) (RN := RN) hlt2)
          have HTIL := Lib.hid (take_len hrl hi)
          clear hrl
          obtain ⟨f, hf⟩ : ∃ f, f = polN SN RN (n - 1) i := ⟨_, rfl⟩
          have hfl : f.length ≤ 17 := by have h1 : f.length ≤ (n - 1) + 1 := by { rw [hf]; exact polN_len }; omega
          have HFP := Lib.hid (show ∀ y ∈ f, y < p by rw [hf]; exact polN_lt b0 HSP.out HRP.out _ i)
          rw [← hf] at HTI
          obtain ⟨T, hT⟩ : ∃ T, T = (RN.drop (i * (n - 1))).take (n - 1) := ⟨_, rfl⟩
          have hXn : nthN SN i < p := nthN_lt b0 HSP.out i
          have hrm := HRM.out i hlt2
          have hTN : NatsAt wr B RN := HR.out.below hbq
          have hTl : T.length = k0 := by rw [hT, List.length_take, List.length_drop, ← HK0.out]; omega
          obtain ⟨lo, hlo⟩ : ∃ lo, lo = i * k0 := ⟨_, rfl⟩
          have e1 : (i : Int) * ((n : Int) - 1) = (lo : Int) := by rw [HKI.out, hlo]; push_cast; rfl
          rw [← hlo] at hrm
          obtain ⟨bB, oB, rfl, hbB, -⟩ := hTN lo (by have := HKK.out; have := HK0.out; omega)
          have hne : ¬ cb = lo := by have := HOK.out.len; have := HKK.out; have := HK0.out; omega
          obtain ⟨hi', hh'⟩ : ∃ x, x = lo + k0 := ⟨_, rfl⟩
          have e2 : ((i : Int) + 1) * ((n : Int) - 1) = (hi' : Int) := by rw [Int.add_mul, e1, Int.one_mul, HKI.out]; omega
          have b1 : (0 : Int) ≤ (i : Int) * ((n : Int) - 1) := by rw [e1]; omega
          have b2 : (i : Int) * ((n : Int) - 1) ≤ 1048576 := by rw [e1]; omega
          have b3 : (0 : Int) ≤ ((i : Int) + 1) * ((n : Int) - 1) := by rw [e2]; omega
          have b4 : ((i : Int) + 1) * ((n : Int) - 1) ≤ 1048576 := by rw [e2]; omega
          have HTL := Lib.hid (show T.length = hi' - lo by omega)
          have hTn : NatsAt wr (some ⟨bB, oB + lo, none⟩) T := by rw [hT, ← HK0.out, ← hlo]; exact (hTN.dropAt lo).take k0
          have HTN := Lib.hid hTn
          have hcap := HOK.out.len
          have c1 : (lo : Int) ≤ (hi' : Int) := by omega
          have c2 : (hi' : Int) ≤ (cb : Int) := by omega
          have c3 : (lo : Int) ≤ (cb : Int) := by omega
          have c4 : (0 : Int) ≤ (lo : Int) := by omega
          have c5 : T.length ≤ 1048576 := by omega
          have HPOL : Hid ([nthN SN i] ++ T = f) := by rw [hf, hT]; rfl
          clear hlo hTN hTl hf hT hTn hh' 
          go_wp2_with (at_builtin; refine app_sl rfl (.tmp 64) (.tmp 73) rfl (base := wr.heap.size) (v := .slice (some ⟨wr.heap.size, 0, none⟩) 1 1) (S := [nthN SN i]) T (some ⟨bB, oB + lo, none⟩) (cb - lo) rfl ((lit1_nats wr (nthN SN i)).own (Nat.le_refl _) (by unfold maxLen; simp)) (by rw [HTL.out]; rfl) (HTN.out.alloc _) (fun e => by cases e) (.inr (fun a e => by injection e with e; subst e; rfl)) (by simp; omega) (by simp) ?_; intro v6 w6 hown6 hb6; rw [HPOL.out] at hown6; obtain ⟨Fa, fc, rfl, hFN, hFS, hFb⟩ := own_sl hown6 rfl; have hb6' : Below wr.heap.size wr w6 := (below_of_alloc hb6 (Nat.le_refl _)); have HFN := Lib.hid hFN; clear hFN hFb hown6)
          have hz6 := hb6'.size
          have HPq6 := Lib.hid (HPq.out.below hb6')
          have HSQ6 := Lib.hid (HSQ.out.below hb6')
          have u0 := HPq6.out.c0
          have u1 := HSQ6.out.c1
          have u2 := HSQ6.out.c0
          have u3 := HSQ6.out.frozen 1
          have lS6 := HSQ6.out.lt
          have lP6 := HPq6.out.lt
          have HOWN6 := Lib.hid (own_below HOWN.out hb6')
          have HEV := Lib.hid (fun (W : World) (hb : Below w6.heap.size w6 W) => show Calls Tryd.prog 69 #[.int .i64 (p : Int), .slice Fa f.length fc, .int .i64 (x : Int)] W (RetB (.int .i64 (evN p f x : Nat)) W) from (refEval_any p x Fa f fc W b0 (by omega) (by omega) HFP.out (HFN.out.below hb) (by omega)).mono (by rintro e w1 ⟨rfl, rfl⟩; exact ⟨rfl, Below.refl _ _⟩))
          generalize evN p f x = y at *
          generalize hMM : (rowN p n SN RN x).take i = M at *
          have hml : M.length ≤ 2048 := by have := HTIL.out; omega
          have HMM := Lib.hid hMM
          clear y0 y1 y2 s0 s1 HOWN hMM
          go_wp2_with fail
          go_region_law (first
            | (refine step_refEval _ rfl (.tmp 78) (.tmp 79) (.tmp 80) _ rfl rfl rfl rfl (HEV.out _ (by (repeat (first | exact bl_refl _ | apply bl_drew | apply bl_alloc)))) ?_; intro w7 hb7; have hb7' : Below w6.heap.size w6 w7 := (below_undrew1 hb7); have l7 := Nat.lt_of_lt_of_le lS6 hb7'.size; have m0 := (hb7'.cell (p := ⟨w.heap.size, 0, none⟩) lP6).trans u0; have m1 := (hb7'.cell (p := ⟨wo.heap.size, 1, none⟩) lS6).trans u1; have m2 := (hb7'.frozen (p := ⟨wo.heap.size, 1, none⟩) lS6).trans u3)
            | (refine step_app_row _ rfl (.tmp 76) (.tmp 82) rfl w7 w5.heap.size (.slice VA M.length vc) M y rfl rfl ⟨rfl, rfl, rfl, rfl⟩ (own_below HOWN6.out hb7') (by omega) (by have := hb7'.size; omega) ?_; intro g' cap w8 hown8 hg8 hbW8 hat8 hb8; have n1 := (hb8.cell (p := ⟨wo.heap.size, 1, none⟩) hz5).trans m1; have n2 := (hb8.frozen (p := ⟨wo.heap.size, 1, none⟩) hz5).trans m2))
          all_goals
            have hc8 : ShCell w8 wo.heap.size x (.slice VA M.length vc) := (hb8.block wo.heap.size hz5).trans (HSQ6.out.below hb7')
            have hcz := hc8.set1 (.slice (some ⟨g', 0, none⟩) (M.length + 1) cap)
            have hoz := own_other hown8 ⟨wo.heap.size, 1, none⟩ (.slice (some ⟨g', 0, none⟩) (M.length + 1) cap) (fun b e => by have := (hown8.lt b e).1; dsimp only; omega)
            have hbz := (below_trans (below_trans hbq0 hb6') hb7').trans (hb8.mono (show wo.heap.size ≤ w5.heap.size by omega))
            have hzz := hbz.setCell (p := ⟨wo.heap.size, 1, none⟩) (Nat.le_refl _) (.slice (some ⟨g', 0, none⟩) (M.length + 1) cap)
            have hs8 := hb8.size
            have hs7 := hb7'.size
            have hz9 : w5.heap.size ≤ (w8.setCell ⟨wo.heap.size, 1, none⟩ (.slice (some ⟨g', 0, none⟩) (M.length + 1) cap)).heap.size := by simp [World.setCell]; omega
            have HZ := Lib.hid (And.intro hcz (And.intro hoz (And.intro hzz hz9)))
            clear hc8 hcz hoz hbz hzz hz9 hown8 n1 n2
            go_wp2_with fail
            go_roundw
            case rel => exact ⟨i + 1, _, by omega, by go_num, HZ.out.1, by rw [HTI.out, List.length_append]; exact HZ.out.2.1, HZ.out.2.2.1, HZ.out.2.2.2⟩
            case measure => simp [intOf]; omega
        · obtain rfl : i = SN.length := by omega
          rw [List.take_of_length_le (by rw [hrl]; exact Nat.le_refl _)] at hown
          clear hrl
          obtain ⟨VA, vc, rfl, hVN, hVS, hVb⟩ := own_sl hown rfl
          have HSQ := Lib.hid hsc
          clear hsc
          have hN9 : ShNew wo wr wo.heap.size x VA vc (rowN p n SN RN x) := ⟨HSQ.out, hVN, hVS, fun b off e => by have := hVb b off e; omega, Nat.le_refl _, hbq0⟩
          generalize rowN p n SN RN x = L at *
          have HN9 := Lib.hid hN9
          have hz9 := hN9.below.size
          obtain ⟨W, hW⟩ : ∃ W, W = wr.alloc (.cells #[.int .i64 (x : Int), .slice VA L.length vc] 53) := ⟨_, rfl⟩
          have hbW : Below wo.heap.size wo W := by rw [hW]; exact bl_alloc _ hN9.below
          have hWz : wr.heap.size ≤ W.heap.size := by rw [hW]; exact (below_alloc _ _).size
          obtain ⟨H, e1, e2, e3⟩ := (HR'.out.below hbW).ex
          have HE3 := Lib.hid (And.intro e1 (And.intro e2 e3))
          have hHl : H.length ≤ 16 := by rw [e2, HLK.out]; omega
          clear e2 e3 hN9 hVN hVS hVb hown
          subst hW
          go_wp2_with (at_builtin; refine app_hv rfl (.tmp 86) (.tmp 88) rfl (base := w4.heap.size) (H := H) (v := .slice OA k oc) ((x : Int), .slice VA L.length vc) rfl e1 rfl (heap_alloc_new _ _) rfl (by omega) (by omega) ?_; intro v4 w8 hown4 hg4 hb4 hv4)
          have hpl8 := (hbr.trans ((hbW.mono hsz).trans hb4))
          have HB4 := Lib.hid hpl8
          have HR4 := Lib.hid (RowsV.put HR'.out HN9.out hsz rfl HE3.out hown4 hg4 hv4 HTK.out)
          clear hown4 hg4 hv4 e1 hpl8
          go_roundw
          case rel => exact ⟨x, x + 1, hxh, rfl, by go_num, HR4.out, HB4.out⟩
          case measure => simp [intOf]; omega
    · obtain rfl : k = h := by omega
      have hX := HRd.out
      rw [List.take_of_length_le (by rw [deal_len]; exact Nat.le_refl _)] at hX
      have hz4 := hbw4.size
      have HX := Lib.hid (hX.mono (Q := fun b => w.heap.size ≤ b) (fun b _ hb => by omega))
      clear hX
      go_wp2_with fail
      go_ret2
      exact ⟨OA, oc, by { have e := (shL_len (dealN p n k SN RN)).trans (deal_len p n k SN RN); rw [e]; first | done | rfl }, HX.out, hbwo⟩

set_option maxRecDepth 100000 in
set_option maxHeartbeats 4000000 in
theorem refDeal_z (p n h : Nat) (A B : Option Addr) (ca cb : Nat) (SN RN : List Nat) (w : World) (hq : PrimeN p) (hq2 : p ≤ 1073741824) (hv : primeV p = validI p) (hpl : plB p n h = true) (h1 : 1 ≤ n) (hkk : n = 1) (hnh : n ≤ h) (hh : h ≤ 16) (hhp : h < p) (hA : NatsAt w A SN) (hR : NatsAt w B RN) (hok : IOK B cb RN.length)
    (hs : ∀ x ∈ SN, x < p) (hr : ∀ x ∈ RN, x < p) (hl : RN.length = SN.length * (n - 1)) (hm : SN.length ≤ 2048) (hm2 : RN.length ≤ 1048576) :
    Calls Tryd.prog 31 #[planV p n h, .slice A SN.length ca, .slice B RN.length cb] w (ShErr (shL (dealN p n h SN RN)) 0 w) := by
  obtain ⟨k0, hk0⟩ : ∃ k0, k0 = n - 1 := ⟨_, rfl⟩
  have hk' : (n : Int) - 1 = (k0 : Int) := by omega
  have HVA := Lib.hid (fun (W : World) => show Calls Tryd.prog 63 #[planV p n h] W (RetB (.bool true) W) from by have := refValid_plan p n h W hv; rw [hpl] at this; exact this)
  have hpv : primeV p = true := plB_pv hpl hv
  have HES := Lib.hid (fun (W : World) (hb : Below w.heap.size w W) => elems_nat p A SN ca W (hA.below hb) (by omega) hs hpv)
  have HER := Lib.hid (fun (W : World) (hb : Below w.heap.size w W) => elems_nat p B RN cb W (hR.below hb) hm2 hr hpv)
  have HRN := Lib.hid (fun (W : World) => refRandom_any p n h SN.length W (by omega) (by omega) (by omega) (by omega))
  have HA := Lib.hid hA
  have HR := Lib.hid hR
  have HOK := Lib.hid hok
  have HSP := Lib.hid hs
  have HRP := Lib.hid hr
  have hle : (RN.length : Int) = SN.length * ((n : Int) - 1) := by rw [hl, hk', ← hk0]; push_cast; rfl
  have t2 : ((RN.length : Int) != (SN.length : Int) * ((n : Int) - 1)) = false := by simp [hle]
  have t1 : decide (2048 < (SN.length : Int)) = false := decide_eq_false (by omega)
  have HLE := Lib.hid (show RN.length = SN.length * k0 by rw [hk0]; exact hl)
  have HK0 := Lib.hid hk0
  have HKK := Lib.hid hkk
  have HKI := Lib.hid hk'
  have b0 : 1 ≤ p := by omega
  have hn7 : n ≤ 16 := by omega
  have hk8 : k0 ≤ 16 := by omega
  clear hA hR hok hs hr hl hle hk0 hkk hk' hv hpl hq hpv
  go_enter Tryd.func31, Tryd.ntmps31
  go_wp2_with fail
  refine ret_below (HVA.out _) ?_
  intro w1 hb1
  have hbw1 := below_trans (below_alloc _ _) hb1
  have HP := Lib.hid ((PlanCell.new (w := w) p n h rfl).below hb1)
  have p0 := HP.out.c0
  have p1 := HP.out.c1
  have p2 := HP.out.c2
  go_wp2_with fail
  refine ret_pure (HES.out _ hbw1) ?_
  go_wp2_with fail
  refine ret_pure (HER.out _ hbw1) ?_
  go_wp2_with fail
  refine ret_below (HRN.out _) ?_
  intro w4 hb4
  have hbw4 := below_trans hbw1 hb4
  have HP4 := Lib.hid (HP.out.below hb4)
  have p04 := HP4.out.c0
  have p14 := HP4.out.c1
  have p24 := HP4.out.c2
  have hpxl := HP4.out.lt
  clear p0 p1 p2 hb1 hb4 HVA HES HER HRN
  have ew : IntKind.i64.wrap ((n : Int) - 1) = (n : Int) - 1 := IntWalk.i64_in _ (by omega)
  go_wp2_with fail
  have HRM := Lib.hid (show ∀ i, i < SN.length → i * k0 + k0 ≤ RN.length from fun i hi => by rw [HLE.out]; exact part_bd hi)
  go_loopw [8, 10] (fun o i wr => ∃ k x : Nat, k ≤ h ∧ x = k + 1 ∧ i = .int .i64 x ∧ RowsV (fun b => w4.heap.size ≤ b) wr w4.heap.size o (shL ((dealN p n h SN RN).take k)) ∧ Below w4.heap.size w4 wr) (fun _ i _ => h + 1 - (intOf i).toNat)
  case atStart => exact ⟨0, 1, Nat.zero_le _, rfl, rfl, RowsV.nil _ _ _, Below.refl _ _⟩
  case round =>
    obtain ⟨k, x, hk, hx, rfl, hR, hbr⟩ := hrel
    obtain ⟨OA, oc, hv, hRd⟩ := hR.read
    have hlk : (shL ((dealN p n h SN RN).take k)).length = k := by rw [shL_len, List.length_take, deal_len]; omega
    rw [hlk] at hv
    subst hv
    have hsz := hbr.size
    have hbwo := below_trans hbw4 hbr
    have hPr := HP4.out.keep (hbr.block w.heap.size hpxl)
    have y0 := hPr.c0
    have y1 := hPr.c1
    have y2 := hPr.c2
    have hpxr := hPr.lt
    have HPr := Lib.hid hPr
    have HR' := Lib.hid hR
    have HLK := Lib.hid hlk
    have HRd := Lib.hid hRd
    have HXK := Lib.hid hx
    clear hR hlk hRd hPr p04 p14 p24
    by_cases hlt : k < h
    · have hxh : x ≤ h := by omega
      have HTK := Lib.hid (deal_take (p := p) (n := n) (SN := SN) (RN := RN) hlt)
      rw [← hx] at HTK
      clear hx
      obtain ⟨wo, rfl⟩ : ∃ wo : World, wo = wr := ⟨_, rfl⟩
      go_wp2_with fail
      refine gen_world fun w5 hw5 => ?_
      have hsc : ShCell w5 wo.heap.size x (.slice none 0 0) := by rw [hw5]; exact ShCell.new _ _ rfl
      have hb5 : Below wo.heap.size wo w5 := by rw [hw5]; exact below_alloc _ _
      have hz5 := hsc.lt
      have HSC := Lib.hid hsc
      clear hw5 hsc y0 y1 y2
      go_loopw [58] (fun j wr => ∃ (m : Nat) (v : Value), m ≤ SN.length ∧ j = .int .i64 m ∧ ShCell wr wo.heap.size x v ∧ wr.ownsRow w5.heap.size 3 1 v ((rowN p n SN RN x).take m).length (valsN ((rowN p n SN RN x).take m)) ∧ Below wo.heap.size wo wr ∧ w5.heap.size ≤ wr.heap.size) (fun j _ => SN.length - (intOf j).toNat)
      case atStart => exact ⟨0, _, Nat.zero_le _, rfl, HSC.out, World.ownsRow_nil _ _ _ _, hb5, Nat.le_refl _⟩
      case round =>
        obtain ⟨i, v, hi, rfl, hsc, hown, hbq0, hzq⟩ := hrel
        have hbq := below_trans hbwo hbq0
        have hPq := HPr.out.below hbq0
        have y0 := hPq.c0
        have y1 := hPq.c1
        have y2 := hPq.c2
        have s0 := hsc.c0
        have s1 := hsc.c1
        have lS := hsc.lt
        have hpq := hPq.lt
        have hwq := hbq0.size
        have HPq := Lib.hid hPq
        clear hPq
        have hrl : (rowN p n SN RN x).length = SN.length := rowN_len _ _ _ _ _
        by_cases hlt2 : i < SN.length
        · obtain ⟨VA, vc, rfl, -⟩ := own_sl hown rfl
          have HSQ := Lib.hid hsc
          have HOWN := Lib.hid hown
          clear hsc hown
          obtain ⟨bA, oA, rfl, hbA, hcA⟩ := (HA.out.below hbq) i hlt2
          have HTI := Lib.hid (rowN_take (p := p) (n := n) (x := x) (SN := SN) (RN := RN) hlt2)
          have HTIL := Lib.hid (take_len hrl hi)
          clear hrl
          obtain ⟨f, hf⟩ : ∃ f, f = polN SN RN (n - 1) i := ⟨_, rfl⟩
          have hfl : f.length ≤ 17 := by have h1 : f.length ≤ (n - 1) + 1 := by { rw [hf]; exact polN_len }; omega
          have HFP := Lib.hid (show ∀ y ∈ f, y < p by rw [hf]; exact polN_lt b0 HSP.out HRP.out _ i)
          rw [← hf] at HTI
          obtain ⟨T, hT⟩ : ∃ T, T = (RN.drop (i * (n - 1))).take (n - 1) := ⟨_, rfl⟩
          have hXn : nthN SN i < p := nthN_lt b0 HSP.out i
          have hrm := HRM.out i hlt2
          have ez : (n : Int) - 1 = 0 := by have := HKK.out; omega
          have e1 : (i : Int) * ((n : Int) - 1) = 0 := by rw [ez, Int.mul_zero]
          have e2 : ((i : Int) + 1) * ((n : Int) - 1) = 0 := by rw [ez, Int.mul_zero]
          clear ez
          have hTl : T.length = 0 := by rw [hT, List.length_take]; have := HKK.out; have := HK0.out; omega
          have hT0 : T = [] := List.eq_nil_of_length_eq_zero (by omega)
          have HCB := Lib.hid HOK.out.nil
          subst hT0
          have HPOL := Lib.hid (show [nthN SN i] ++ [] = f by { rw [hf]; unfold polN; rw [← hT] })
          clear hTl hT hf
          go_wp2_with (at_builtin; refine app_sl rfl (.tmp 64) (.tmp 73) rfl (base := wr.heap.size) (v := .slice (some ⟨wr.heap.size, 0, none⟩) 1 1) (S := [nthN SN i]) [] B cb rfl ((lit1_nats wr (nthN SN i)).own (Nat.le_refl _) (by unfold maxLen; simp)) rfl (NatsAt.nil _ _) (fun e => ⟨rfl, HCB.out e⟩) (.inl rfl) (by simp) (by simp) ?_; intro v6 w6 hown6 hb6; rw [HPOL.out] at hown6; obtain ⟨Fa, fc, rfl, hFN, hFS, hFb⟩ := own_sl hown6 rfl; have hb6' : Below wr.heap.size wr w6 := (below_of_alloc hb6 (Nat.le_refl _)); have HFN := Lib.hid hFN; clear hFN hFb hown6)
          have hz6 := hb6'.size
          have HPq6 := Lib.hid (HPq.out.below hb6')
          have HSQ6 := Lib.hid (HSQ.out.below hb6')
          have u0 := HPq6.out.c0
          have u1 := HSQ6.out.c1
          have u2 := HSQ6.out.c0
          have u3 := HSQ6.out.frozen 1
          have lS6 := HSQ6.out.lt
          have lP6 := HPq6.out.lt
          have HOWN6 := Lib.hid (own_below HOWN.out hb6')
          have HEV := Lib.hid (fun (W : World) (hb : Below w6.heap.size w6 W) => show Calls Tryd.prog 69 #[.int .i64 (p : Int), .slice Fa f.length fc, .int .i64 (x : Int)] W (RetB (.int .i64 (evN p f x : Nat)) W) from (refEval_any p x Fa f fc W b0 (by omega) (by omega) HFP.out (HFN.out.below hb) (by omega)).mono (by rintro e w1 ⟨rfl, rfl⟩; exact ⟨rfl, Below.refl _ _⟩))
          generalize evN p f x = y at *
          generalize hMM : (rowN p n SN RN x).take i = M at *
          have hml : M.length ≤ 2048 := by have := HTIL.out; omega
          have HMM := Lib.hid hMM
          clear y0 y1 y2 s0 s1 HOWN hMM
          go_wp2_with fail
          go_region_law (first
            | (refine step_refEval _ rfl (.tmp 78) (.tmp 79) (.tmp 80) _ rfl rfl rfl rfl (HEV.out _ (by (repeat (first | exact bl_refl _ | apply bl_drew | apply bl_alloc)))) ?_; intro w7 hb7; have hb7' : Below w6.heap.size w6 w7 := (below_undrew1 hb7); have l7 := Nat.lt_of_lt_of_le lS6 hb7'.size; have m0 := (hb7'.cell (p := ⟨w.heap.size, 0, none⟩) lP6).trans u0; have m1 := (hb7'.cell (p := ⟨wo.heap.size, 1, none⟩) lS6).trans u1; have m2 := (hb7'.frozen (p := ⟨wo.heap.size, 1, none⟩) lS6).trans u3)
            | (refine step_app_row _ rfl (.tmp 76) (.tmp 82) rfl w7 w5.heap.size (.slice VA M.length vc) M y rfl rfl ⟨rfl, rfl, rfl, rfl⟩ (own_below HOWN6.out hb7') (by omega) (by have := hb7'.size; omega) ?_; intro g' cap w8 hown8 hg8 hbW8 hat8 hb8; have n1 := (hb8.cell (p := ⟨wo.heap.size, 1, none⟩) hz5).trans m1; have n2 := (hb8.frozen (p := ⟨wo.heap.size, 1, none⟩) hz5).trans m2))
          all_goals
            have hc8 : ShCell w8 wo.heap.size x (.slice VA M.length vc) := (hb8.block wo.heap.size hz5).trans (HSQ6.out.below hb7')
            have hcz := hc8.set1 (.slice (some ⟨g', 0, none⟩) (M.length + 1) cap)
            have hoz := own_other hown8 ⟨wo.heap.size, 1, none⟩ (.slice (some ⟨g', 0, none⟩) (M.length + 1) cap) (fun b e => by have := (hown8.lt b e).1; dsimp only; omega)
            have hbz := (below_trans (below_trans hbq0 hb6') hb7').trans (hb8.mono (show wo.heap.size ≤ w5.heap.size by omega))
            have hzz := hbz.setCell (p := ⟨wo.heap.size, 1, none⟩) (Nat.le_refl _) (.slice (some ⟨g', 0, none⟩) (M.length + 1) cap)
            have hs8 := hb8.size
            have hs7 := hb7'.size
            have hz9 : w5.heap.size ≤ (w8.setCell ⟨wo.heap.size, 1, none⟩ (.slice (some ⟨g', 0, none⟩) (M.length + 1) cap)).heap.size := by simp [World.setCell]; omega
            have HZ := Lib.hid (And.intro hcz (And.intro hoz (And.intro hzz hz9)))
            clear hc8 hcz hoz hbz hzz hz9 hown8 n1 n2
            go_wp2_with fail
            go_roundw
            case rel => exact ⟨i + 1, _, by omega, by go_num, HZ.out.1, by rw [HTI.out, List.length_append]; exact HZ.out.2.1, HZ.out.2.2.1, HZ.out.2.2.2⟩
            case measure => simp [intOf]; omega
        · obtain rfl : i = SN.length := by omega
          rw [List.take_of_length_le (by rw [hrl]; exact Nat.le_refl _)] at hown
          clear hrl
          obtain ⟨VA, vc, rfl, hVN, hVS, hVb⟩ := own_sl hown rfl
          have HSQ := Lib.hid hsc
          clear hsc
          have hN9 : ShNew wo wr wo.heap.size x VA vc (rowN p n SN RN x) := ⟨HSQ.out, hVN, hVS, fun b off e => by have := hVb b off e; omega, Nat.le_refl _, hbq0⟩
          generalize rowN p n SN RN x = L at *
          have HN9 := Lib.hid hN9
          have hz9 := hN9.below.size
          obtain ⟨W, hW⟩ : ∃ W, W = wr.alloc (.cells #[.int .i64 (x : Int), .slice VA L.length vc] 53) := ⟨_, rfl⟩
          have hbW : Below wo.heap.size wo W := by rw [hW]; exact bl_alloc _ hN9.below
          have hWz : wr.heap.size ≤ W.heap.size := by rw [hW]; exact (below_alloc _ _).size
          obtain ⟨H, e1, e2, e3⟩ := (HR'.out.below hbW).ex
          have HE3 := Lib.hid (And.intro e1 (And.intro e2 e3))
          have hHl : H.length ≤ 16 := by rw [e2, HLK.out]; omega
          clear e2 e3 hN9 hVN hVS hVb hown
          subst hW
          go_wp2_with (at_builtin; refine app_hv rfl (.tmp 86) (.tmp 88) rfl (base := w4.heap.size) (H := H) (v := .slice OA k oc) ((x : Int), .slice VA L.length vc) rfl e1 rfl (heap_alloc_new _ _) rfl (by omega) (by omega) ?_; intro v4 w8 hown4 hg4 hb4 hv4)
          have hpl8 := (hbr.trans ((hbW.mono hsz).trans hb4))
          have HB4 := Lib.hid hpl8
          have HR4 := Lib.hid (RowsV.put HR'.out HN9.out hsz rfl HE3.out hown4 hg4 hv4 HTK.out)
          clear hown4 hg4 hv4 e1 hpl8
          go_roundw
          case rel => exact ⟨x, x + 1, hxh, rfl, by go_num, HR4.out, HB4.out⟩
          case measure => simp [intOf]; omega
    · obtain rfl : k = h := by omega
      have hX := HRd.out
      rw [List.take_of_length_le (by rw [deal_len]; exact Nat.le_refl _)] at hX
      have hz4 := hbw4.size
      have HX := Lib.hid (hX.mono (Q := fun b => w.heap.size ≤ b) (fun b _ hb => by omega))
      clear hX
      go_wp2_with fail
      go_ret2
      exact ⟨OA, oc, by { have e := (shL_len (dealN p n k SN RN)).trans (deal_len p n k SN RN); rw [e]; first | done | rfl }, HX.out, hbwo⟩
end Go.Proofs.YtlhipgejiacklaaDoor
namespace Go.Proofs.YtlhipgejiacklaaDoor
open Go.RowKit

theorem refDeal_made {p n h : Nat} {A B : Option Addr} {ca cb k j : Nat} {sec ran : List Nat} {w : World} (P : PlanN p n h) (hA : NatsAt w A sec) (hR : NatsAt w B ran) (hok : SlOK B cb ran)
    (hm : sec.length ≤ 2048) (hs : ∀ x ∈ sec, x < p) (hr : ∀ x ∈ ran, x < p) (hl : ran.length = sec.length * (n - 1)) (hl2 : ran.length ≤ 1048576) (hk : k = sec.length) (hj : j = ran.length) :
    Calls Tryd.prog 31 #[planV p n h, .slice A k ca, .slice B j cb] w (DealR (dealN p n h sec ran) h w) := by
  subst hk hj
  have key : Calls Tryd.prog 31 #[planV p n h, .slice A sec.length ca, .slice B ran.length cb] w (ShErr (shL (dealN p n h sec ran)) 0 w) := by
    rcases Nat.lt_or_ge n 2 with h1 | h1
    · exact refDeal_z p n h A B ca cb sec ran w P.pr P.p2 P.pv P.pl P.n1 (by have := P.n1; omega) P.nh (by have := P.h7; omega) P.hp hA hR hok.iok hs hr hl hm hl2
    · exact refDeal_k p n h A B ca cb sec ran w P.pr P.p2 P.pv P.pl P.n1 h1 P.nh (by have := P.h7; omega) P.hp hA hR hok.iok hs hr hl hm hl2
  refine key.mono ?_
  rintro e w' ⟨A', c', rfl, h1, h2⟩
  exact ⟨A', c', by rw [shL_len, deal_len], h1, h2⟩
theorem refRandom_nat (p n h q rl : Nat) (w : World) (hrl : rl = q * (n - 1)) (hn : 1 ≤ n) (hn2 : n ≤ 1000) (hq : q ≤ 1048576) :
    Calls Tryd.prog 22 #[planV p n h, .int .i64 (q : Int)] w (RetB (.int .i64 (rl : Int)) w) := by
  have := refRandom_any p n h q w (by omega) (by omega) (by omega) (by omega)
  rw [show (q : Int) * ((n : Int) - 1) = ((rl : Nat) : Int) from by rw [hrl, show ((n : Int) - 1) = ((n - 1 : Nat) : Int) by omega]; push_cast; rfl] at this
  exact this
/-- What a dealt secret is. -/
structure DealtN (p n h most : Nat) (sec ran : List Nat) : Prop where
  lo : 1 ≤ sec.length
  hi : sec.length ≤ most
  sp : ∀ x ∈ sec, x < p
  rp : ∀ x ∈ ran, x < p
  ln : ran.length = sec.length * (n - 1)
def DealtP (D p n h most : Nat) (w : World) (e : Ending) (w' : World) : Prop :=
  ∃ (A : Option Addr) (c : Nat) (sec : List Nat) (A' : Option Addr) (c' : Nat) (ran : List Nat) (R' : List Int), e = .returned (.tuple #[.slice A sec.length c, .slice A' h c']) ∧ DealtN p n h most sec ran ∧ Held w' D A c sec ∧ ShP (· ≠ D) w' A' c' (shL (dealN p n h sec ran)) ∧ DiceAt w' D R' ∧ w.grownBy w' (some D)

set_option maxRecDepth 100000 in
set_option maxHeartbeats 4000000 in
theorem dealt_any (D : Nat) (R : List Int) (p n h most : Nat) (w : World) (hd : DiceAt w D R) (P : PlanN p n h) (hm : 1 ≤ most) (hm2 : most ≤ 10) :
    Calls Tryd.prog 18 #[.pointer (some ⟨D, 0, none⟩), planV p n h, .int .i64 (most : Int)] w (DealtP D p n h most w) := by
  have HPN := Lib.hid P
  have h1 := P.p1
  have hp2 : p ≤ 2147483648 := by have := P.p2; omega
  have hn1 := P.n1
  have hn7 : n ≤ 16 := Nat.le_trans P.nh P.h7
  have hDl := hd.lt
  clear P
  go_enter Tryd.func18, Tryd.ntmps18
  go_wp2_with fail
  refine gen_world fun w4 hw4 => ?_
  have hpc : PlanCell w4 w.heap.size p n h := by rw [hw4]; exact PlanCell.new _ _ _ rfl
  have hb4 : Below w.heap.size w w4 := by rw [hw4]; exact below_alloc _ _
  have hd4 := hd.below hb4
  have hg4 : w.grownBy w4 (some D) := grown_of_below hb4
  have hxD : w.heap.size ≠ D := by omega
  have p0 := hpc.c0
  have p1 := hpc.c1
  have p2 := hpc.c2
  have lx := hpc.lt
  have HPC := Lib.hid hpc
  clear hw4 hpc hd
  generalize w.heap.size = px at *
  go_region_held3 (fun w' => w'.cell? ⟨px, 0, none⟩ = some (.int .i64 (p : Int)) ∧ w'.cell? ⟨px, 1, none⟩ = some (.int .i64 (n : Int)) ∧ w'.cell? ⟨px, 2, none⟩ = some (.int .i64 (h : Int))) (first | go_keep)
      (first
        | (go_at_call 19; refine (next_nat D _ most _ (by exact hd4) (by omega) (by omega)).mono ?_; rintro e w5 ⟨m0, rfl, hm0, hD5, hg5⟩; have hg5' : w4.grownBy w5 (some D) := (grown_undrew hg5); have hgw5 := grown_trans hg4 hg5'; have HP5 := Lib.hid (HPC.out.mv hg5' hxD); have q0 := HP5.out.c0; have q1 := HP5.out.c1; have q2 := HP5.out.c2; have ew : IntKind.i64.wrap (1 + (m0:Int)) = 1 + (m0:Int) := (IntWalk.i64_in _ (by omega)))
        | (go_at_call 21; refine (elements_at D _ p (1 + m0) _ _ (by omega) hD5 h1 hp2 (by omega)).mono ?_; intro e w6 he; obtain ⟨SA, sc, sec, R6, rfl, hsl, hsp, hS, hD6, hg6⟩ := elems_held hD5.lt he; have HSL := Lib.hid hsl; clear hsl; have hgw6 := grown_trans hgw5 hg6; have HP6 := Lib.hid (HP5.out.mv hg6 hxD); have r0 := HP6.out.c0; have r1 := HP6.out.c1; have r2 := HP6.out.c2))
  have HSEC := Lib.hid hS
  have HSP := Lib.hid hsp
  have hsl1 : sec.length ≤ most := by have := HSL.out; omega
  have hsl2 : 1 ≤ sec.length := by have := HSL.out; omega
  have lx6 := HP6.out.lt
  have hlD6 := hD6.lt
  clear he hS hsp hg6 hD5 hg5 hg5' q0 q1 q2 p0 p1 p2 HP5 HPC HSL hm0 ew hgw5 hg4 hb4 hd4
  go_wp2_with fail
  obtain ⟨rl, hrl⟩ : ∃ rl, rl = sec.length * (n - 1) := ⟨_, rfl⟩
  have hrl2 : rl ≤ 1048576 := by rw [hrl]; have := Nat.mul_le_mul hsl1 (show n - 1 ≤ 16 by omega); omega
  have HRN := Lib.hid (fun (W : World) => refRandom_nat p n h sec.length rl W hrl hn1 (by omega) (by omega))
  have HRL := Lib.hid hrl
  clear hrl
  go_region_held3 (fun w' => w'.cell? ⟨px, 0, none⟩ = some (.int .i64 (p : Int)) ∧ w'.cell? ⟨px, 1, none⟩ = some (.int .i64 (n : Int)) ∧ w'.cell? ⟨px, 2, none⟩ = some (.int .i64 (h : Int))) (first | go_keep)
      (first
        | (go_at_call 22; refine ret_below (HRN.out _) ?_; intro w7 hb7; have hb7' : Below w6.heap.size w6 w7 := (below_undrew1 hb7); have hD7 := hD6.below hb7'; have hgw7 := grown_trans hgw6 (grown_of_below hb7' : w6.grownBy w7 (some D)); have HP7 := Lib.hid (HP6.out.below hb7'); have q0 := HP7.out.c0; have q1 := HP7.out.c1; have q2 := HP7.out.c2)
        | (go_at_call 21; refine (elements_any D _ p rl _ hD7 h1 hp2 hrl2).mono ?_; intro e w8 he; obtain ⟨RA, rc, ran, R8, rfl, hrnl, hrp, hR, hD8, hg8⟩ := elems_held hD7.lt he; have HRNL := Lib.hid hrnl; clear hrnl; have hgw8 := grown_trans hgw7 hg8; have HP8 := Lib.hid (HP7.out.mv hg8 hxD); have s0 := HP8.out.c0; have s1 := HP8.out.c1; have s2 := HP8.out.c2; have HSEC8 := Lib.hid ((HSEC.out.below hb7').mv hg8))
        | (go_at_call 31; refine (refDeal_made HPN.out HSEC8.out.nats hR.nats hR.ok (by omega) HSP.out hrp (by exact HRNL.out.trans HRL.out) (by have := HRNL.out; omega) rfl rfl).mono ?_; rintro e w9 ⟨NA, nc, rfl, hN, hb9⟩; have hD9 := hD8.below hb9; have hgw9 := grown_trans hgw8 (grown_of_below hb9 : w8.grownBy w9 (some D)); have HP9 := Lib.hid (HP8.out.below hb9); have t0 := HP9.out.c0; have t1 := HP9.out.c1; have t2 := HP9.out.c2))
  have HX := Lib.hid (show DealtP D p n h most w (.returned (.tuple #[.slice SA sec.length sc, .slice NA h nc])) w9 from ⟨SA, sc, sec, NA, nc, ran, _, rfl, ⟨hsl2, hsl1, HSP.out, hrp, HRNL.out.trans HRL.out⟩, HSEC8.out.below hb9, hN.away hD8.lt, hD9, hgw9⟩)
  clear he hrp hR hD8 hg8 hD7 hD6 HP8 HP7 HP6 HSEC8 HSEC q0 q1 q2 s0 s1 s2 r0 r1 r2 hb9 hb7 hb7' HRN hN hD9 hgw9 hgw8 hgw7 hgw6
  go_wp2_with fail
  go_ret2
  exact HX.out
end Go.Proofs.YtlhipgejiacklaaDoor
namespace Go.Proofs.YtlhipgejiacklaaDoor
open Go.RowKit

def IxN (T : Nat → Bool) (m : Nat) (i : Int) : Prop := (i = -1 ∧ ∀ j, j < m → T j = false) ∨ ∃ k : Nat, i = k ∧ k < m ∧ T k = true ∧ ∀ j, j < k → T j = false
set_option maxHeartbeats 1000000 in
theorem indexSh_any {P : Nat → Prop} (n : Nat) (us : Array Value) (T : Nat → Bool) (A : Option Addr) (S : List Shr) (cap : Nat) (w : World) (hSh : ShP P w A cap S) (hl : S.length ≤ 1048576) (hn : ∀ args w, (callFunc n args).run Tryd.prog w = .ok (.enter n args) w)
    (hT : ∀ w', Below w.heap.size w w' → ∀ k, k < S.length → ∀ B c, Calls Tryd.prog n (#[shV (hS S k) (.slice B (vS S k).length c)] ++ us) w' (RetB (.bool (T k)) w')) :
    Calls Tryd.prog 58 #[.slice A S.length cap, .func (.func n) #[] us] w (fun e w' => ∃ i : Int, e = .returned (.int .i64 i) ∧ IxN T S.length i ∧ Below w.heap.size w w') := by
  have HS := Lib.hid hSh
  have HT := Lib.hid hT
  clear hT hSh
  go_enter Tryd.func58, Tryd.ntmps58
  go_wp2_with fail
  go_loopw [8] (fun i wr => ∃ k : Nat, k ≤ S.length ∧ i = .int .i64 k ∧ (∀ j, j < k → T j = false) ∧ Below w.heap.size w wr) (fun i _ => S.length - (intOf i).toNat)
  case atStart => exact ⟨0, Nat.zero_le _, rfl, fun j hj => absurd hj (by omega), Below.refl _ _⟩
  case round =>
    obtain ⟨k, hk, rfl, hpre, hbr⟩ := hrel
    have HP := Lib.hid hpre
    clear hpre
    by_cases hlt : k < S.length
    · obtain ⟨b, off, B, c, rfl, hbl, -, c1, c2, -⟩ := HS.out.at_ k hlt
      have d1 := (hbr.cell (p := ⟨b, off + k * 2, none⟩) hbl).trans c1
      have d2 := (hbr.cell (p := ⟨b, off + k * 2 + 1, none⟩) hbl).trans c2
      have hbs := hbr.size
      clear c1 c2
      go_wp2_with fail
      refine ret_below (HT.out _ hbr k hlt B c) fun w2 hb2 => ?_
      generalize hx : T k = tv at *
      have HX := Lib.hid hx
      clear hx
      have hbw : Below w.heap.size w w2 := hbr.trans (hb2.mono hbs)
      cases tv with
      | true =>
        go_wp2_with fail
        go_ret
        exact ⟨_, rfl, .inr ⟨k, rfl, hlt, HX.out, HP.out⟩, hbw⟩
      | false =>
        go_wp2_with fail
        go_roundw
        case rel =>
          refine ⟨k + 1, by omega, by go_num, fun j hj => ?_, hbw⟩
          by_cases hjk : j = k
          · subst hjk; exact HX.out
          · exact HP.out j (by omega)
        case measure => simp [intOf]; omega
    · go_wp2_with fail
      go_ret
      exact ⟨_, rfl, .inl ⟨rfl, fun j hj => HP.out j (by omega)⟩, hbr⟩
/-- Whether it holds for one of the first m. -/
def anyN (T : Nat → Bool) (m : Nat) : Bool := (List.range m).any T
theorem ixN_any {T : Nat → Bool} {m : Nat} {i : Int} (h : IxN T m i) : decide (0 ≤ i) = anyN T m := by
  rcases h with ⟨rfl, h⟩ | ⟨k, rfl, hk, ht, -⟩
  · have : anyN T m = false := by
      unfold anyN
      rw [List.any_eq_false]
      intro x hx
      rw [h x (List.mem_range.1 hx)]; simp
    rw [this]; rfl
  · have : anyN T m = true := by
      unfold anyN
      rw [List.any_eq_true]
      exact ⟨k, List.mem_range.2 hk, ht⟩
    rw [this]; exact decide_eq_true (by omega)
set_option maxHeartbeats 400000 in
theorem containsSh_any {P : Nat → Prop} (n : Nat) (us : Array Value) (T : Nat → Bool) (A : Option Addr) (S : List Shr) (cap : Nat) (w : World) (hSh : ShP P w A cap S) (hl : S.length ≤ 1048576) (hn : ∀ args w, (callFunc n args).run Tryd.prog w = .ok (.enter n args) w)
    (hT : ∀ w', Below w.heap.size w w' → ∀ k, k < S.length → ∀ B c, Calls Tryd.prog n (#[shV (hS S k) (.slice B (vS S k).length c)] ++ us) w' (RetB (.bool (T k)) w')) :
    Calls Tryd.prog 60 #[.slice A S.length cap, .func (.func n) #[] us] w (RetB (.bool (anyN T S.length)) w) := by
  have HC := Lib.hid (indexSh_any n us T A S cap w hSh hl hn hT)
  clear hSh hn hT
  go_enter Tryd.func60, Tryd.ntmps60
  go_wp2_with fail
  refine HC.out.mono ?_
  rintro e w1 ⟨i, rfl, hi, hb⟩
  have HI := Lib.hid (ixN_any hi)
  clear hi
  go_wp2_with fail
  go_ret
  exact RetB.bool HI.out hb

/-! ### The closures of Apply -/
theorem enter_ap11 (args : Array Value) (w : World) : (callFunc 59 args).run Tryd.prog w = .ok (.enter 59 args) w :=
  MuLone.run_callFunc_enter Tryd.func59 (by kernel_rfl) rfl args w
theorem enter_ap1 (args : Array Value) (w : World) : (callFunc 57 args).run Tryd.prog w = .ok (.enter 57 args) w :=
  MuLone.run_callFunc_enter Tryd.func57 (by kernel_rfl) rfl args w
theorem enter_ap2 (args : Array Value) (w : World) : (callFunc 61 args).run Tryd.prog w = .ok (.enter 61 args) w :=
  MuLone.run_callFunc_enter Tryd.func61 (by kernel_rfl) rfl args w
set_option maxRecDepth 100000 in
set_option maxHeartbeats 400000 in
theorem ap11_any (x y : Int) (v : Value) (g : Nat) (w : World) (hc : w.cell? ⟨g, 0, none⟩ = some (.int .i64 y)) (hg : g < w.heap.size) :
    Calls Tryd.prog 59 #[shV x v, .pointer (some ⟨g, 0, none⟩)] w (RetB (.bool (x == y)) w) := by
  go_enter Tryd.func59, Tryd.ntmps59
  go_wp2_with fail
  go_ret
  exact RetB.bool rfl (below_alloc _ _)
/-- Where the holder is. -/
def isH (S : List Shr) (y : Int) (k : Nat) : Bool := hS S k == y
set_option maxRecDepth 100000 in
set_option maxHeartbeats 1000000 in
theorem ap1_any {P : Nat → Prop} (y : Int) (A : Option Addr) (c : Nat) (S : List Shr) (g : Nat) (w : World) (hc : w.cell? ⟨g, 0, none⟩ = some (.slice A S.length c)) (hg : g < w.heap.size) (hSh : ShP P w A c S) (hl : S.length ≤ 1048576) :
    Calls Tryd.prog 57 #[.int .i64 y, .pointer (some ⟨g, 0, none⟩)] w (fun e w' => ∃ i : Int, e = .returned (.int .i64 i) ∧ IxN (isH S y) S.length i ∧ Below w.heap.size w w') := by
  have HC := Lib.hid (fun (W : World) (hb : Below w.heap.size w W) (g' : Nat) (h1 : W.cell? ⟨g', 0, none⟩ = some (.int .i64 y)) (h2 : g' < W.heap.size) => indexSh_any 59 #[.pointer (some ⟨g', 0, none⟩)] (isH S y) A S c W (hSh.below hb) hl enter_ap11
    (fun w' hb' k hk B c => ap11_any (hS S k) y (.slice B (vS S k).length c) g' w' ((hb'.cell h2).trans h1) (Nat.lt_of_lt_of_le h2 hb'.size)))
  clear hSh
  go_enter Tryd.func57, Tryd.ntmps57
  go_wp2_with fail
  refine (HC.out _ (below_alloc _ _) w.heap.size (by simp) (by simp)).mono ?_
  rintro e w1 ⟨i, rfl, hi, hb⟩
  have HI := Lib.hid hi
  have HB := Lib.hid (below_trans (below_alloc _ _) hb)
  clear hi hb
  go_wp2_with fail
  go_ret
  exact ⟨i, rfl, HI.out, HB.out⟩
theorem neg_of (i : Int) : decide (i < 0) = !decide (0 ≤ i) := by
  by_cases h : 0 ≤ i
  · rw [decide_eq_true h, decide_eq_false (by omega)]; rfl
  · rw [decide_eq_false h, decide_eq_true (by omega)]; rfl
set_option maxRecDepth 100000 in
set_option maxHeartbeats 1000000 in
theorem ap2_any {P : Nat → Prop} (x : Int) (v : Value) (A : Option Addr) (c : Nat) (S : List Shr) (g z : Nat) (w : World) (hc : w.cell? ⟨z, 0, none⟩ = some (.slice A S.length c)) (hz : z < w.heap.size)
    (hf : w.cell? ⟨g, 0, none⟩ = some (.func (.func 57) #[] #[.pointer (some ⟨z, 0, none⟩)])) (hg : g < w.heap.size) (hSh : ShP P w A c S) (hl : S.length ≤ 1048576) :
    Calls Tryd.prog 61 #[shV x v, .pointer (some ⟨g, 0, none⟩)] w (RetB (.bool (!anyN (isH S x) S.length)) w) := by
  have HC := Lib.hid (fun (W : World) (hb : Below w.heap.size w W) => ap1_any x A c S z W ((hb.cell hz).trans hc) (Nat.lt_of_lt_of_le hz hb.size) (hSh.below hb) hl)
  clear hSh hc
  go_enter Tryd.func61, Tryd.ntmps61
  go_wp2_with fail
  refine (HC.out _ (below_alloc _ _)).mono ?_
  rintro e w1 ⟨i, rfl, hi, hb⟩
  have HI := Lib.hid (neg_of i ▸ congrArg (! ·) (ixN_any hi))
  have HB := Lib.hid (below_trans (below_alloc _ _) hb)
  clear hi hb
  go_wp2_with fail
  go_ret
  exact RetB.bool HI.out HB.out
end Go.Proofs.YtlhipgejiacklaaDoor
