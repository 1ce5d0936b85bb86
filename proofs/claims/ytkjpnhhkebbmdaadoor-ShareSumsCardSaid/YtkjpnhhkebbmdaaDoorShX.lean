/-
  Shares: a plan of the statements, and shares of a secret as the calls make and take them.
-/
import Derived.Test.YtkjpnhhkebbmdaaDoorShW0
namespace Go.Proofs.YtkjpnhhkebbmdaaDoor
open Go.RowKit

structure PlanN (p n h : Nat) : Prop where
  pr : PrimeN p
  pv : primeV p = validI p
  pl : plB p n h = true
  n1 : 1 ≤ n
  nh : n ≤ h
  h7 : h ≤ 7
  hp : h < p
  p2 : p ≤ 1073741824
theorem PlanN.mk' {p n h : Nat} (hp : PrimeN p) (h2 : p ≤ 1073741824) (h1 : 1 ≤ n) (hh : n ≤ h) (h7 : h ≤ 7) (hlt : h < p) : PlanN p n h :=
  ⟨hp, (prime_valid hp h2).1, plB_true h1 hh (by omega) hlt (prime_valid hp h2).2, h1, hh, h7, hlt, h2⟩
theorem PlanN.p1 {p n h : Nat} (H : PlanN p n h) : 1 ≤ p := by have := H.pr.1; omega

/-- Shares of the list sec. -/
structure Made (p n h : Nat) (sec : List Nat) (N : List ShN) : Prop where
  ex : ∃ F, OnP p h sec.length F N ∧ (∀ i, i < sec.length → (F i).length ≤ n) ∧ (List.range sec.length).map (fun i => evN p (F i) 0) = sec
theorem Made.perm {p n h : Nat} {sec : List Nat} {N M : List ShN} (H : Made p n h sec N) (hs : M.Perm N) : Made p n h sec M := by
  obtain ⟨F, h1, h2, h3⟩ := H.ex
  exact ⟨F, h1.perm hs, h2, h3⟩
theorem Made.take {p n h : Nat} {sec : List Nat} {N : List ShN} (H : Made p n h sec N) (k : Nat) : Made p n h sec (N.take k) := by
  obtain ⟨F, h1, h2, h3⟩ := H.ex
  exact ⟨F, h1.take k, h2, h3⟩
theorem Made.short {p n h : Nat} {sec : List Nat} {N : List ShN} (H : Made p n h sec N) (hm : sec.length ≤ 1048576) : Short (shL N) := by
  obtain ⟨F, h1, h2, h3⟩ := H.ex
  exact h1.short hm
theorem Made.cm {p n h : Nat} {sec : List Nat} {N : List ShN} (H : Made p n h sec N) (P : PlanN p n h) (hm : sec.length ≤ 2048) (hn : n ≤ N.length) : cmE p n h (shL N) = 0 ∧ cmL p n h (shL N) = sec := by
  obtain ⟨F, h1, h2, h3⟩ := H.ex
  have := cm_on h1 P.pr P.pl hm hn h2
  rw [h3] at this; exact this
theorem Made.few {p n h : Nat} {sec : List Nat} {N : List ShN} (H : Made p n h sec N) (P : PlanN p n h) (hm : sec.length ≤ 2048) (hn : N.length < n) : cmE p n h (shL N) = 5 ∧ cmL p n h (shL N) = [] := by
  obtain ⟨F, h1, h2, h3⟩ := H.ex
  have := cm_few h1 P.pl hm hn
  exact ⟨this, cmL_no (by rw [this]; decide)⟩
theorem Made.ft {p n h : Nat} {sec : List Nat} {N : List ShN} (H : Made p n h sec N) (P : PlanN p n h) (hm : sec.length ≤ 2048) : ftB p n h (shL N) = true := by
  obtain ⟨F, h1, h2, h3⟩ := H.ex
  exact ft_on h1 P.pr P.pl hm h2
theorem deal_Made {p n h : Nat} {sec ran : List Nat} (P : PlanN p n h) (hs : ∀ x ∈ sec, x < p) (hr : ∀ x ∈ ran, x < p) : Made p n h sec (dealN p n h sec ran) :=
  ⟨_, deal_on, fun _ _ => polN_le P.n1, deal_sec P.p1 hs hr⟩

def DealR (N : List ShN) (h : Nat) (w : World) (e : Ending) (w' : World) : Prop :=
  ∃ A c, e = .returned (.tuple #[.slice A h c, .int .i64 0]) ∧ ShP (fun b => w.heap.size ≤ b) w' A c (shL N) ∧ Below w.heap.size w w'
theorem deal_made {p n h : Nat} {A B : Option Addr} {ca cb k j : Nat} {sec ran : List Nat} {w : World} (P : PlanN p n h) (hB : Bases w) (hA : NatsAt w A sec) (hR : NatsAt w B ran) (hok : SlOK B cb ran)
    (hm : sec.length ≤ 2048) (hs : ∀ x ∈ sec, x < p) (hr : ∀ x ∈ ran, x < p) (hl : ran.length = sec.length * (n - 1)) (hl2 : ran.length ≤ 1048576) (hk : k = sec.length) (hj : j = ran.length) :
    Calls Tryd.prog 20 #[planV p n h, .slice A k ca, .slice B j cb] w (DealR (dealN p n h sec ran) h w) := by
  subst hk hj
  refine (deal_nats P.pv hB hA hR hok P.pl hm hs hr hl hl2).mono ?_
  rintro e w' ⟨A', c', rfl, h1, h2⟩
  exact ⟨A', c', by rw [shL_len, deal_len], h1, h2⟩

def Part (M N : List ShN) : Prop := ∃ M' : List ShN, M'.Perm N ∧ M = M'.take M.length
theorem Made.part {p n h : Nat} {sec : List Nat} {N M : List ShN} (H : Made p n h sec N) (hs : Part M N) : Made p n h sec M := by
  obtain ⟨M', h1, h2⟩ := hs
  rw [h2]; exact (H.perm h1).take _
def TurnM (D : Nat) (N : List ShN) (least : Nat) (w : World) (e : Ending) (w' : World) : Prop :=
  ∃ (A : Option Addr) (c : Nat) (M : List ShN) (R' : List Int), e = .returned (.slice A M.length c) ∧ Part M N ∧ M.length ≤ N.length ∧ (least ≤ N.length → least ≤ M.length) ∧ ShP (· ≠ D) w' A c (shL M) ∧ DiceAt w' D R' ∧ w.grownBy w' (some D)
theorem unshL {N : List ShN} {Q : List Shr} (hq : Q.Perm (shL N)) : ∃ M, Q = shL M ∧ M.length = N.length ∧ M.Perm N := by
  have hm : ∀ {Q T : List Shr}, Q.Perm T → ∀ N, T = shL N → ∃ M, Q = shL M ∧ M.Perm N := by
    intro Q T h
    induction h with
    | nil => intro N hN; exact ⟨[], rfl, by cases N with | nil => exact .nil | cons a t => simp [shL] at hN⟩
    | @cons x l1 l2 h ih => intro N hN; cases N with
      | nil => simp [shL] at hN
      | cons a t =>
        have hN' : x = shI a ∧ l2 = shL t := by simpa [shL] using hN
        obtain ⟨M, rfl, hM⟩ := ih t hN'.2
        exact ⟨a :: M, by rw [hN'.1]; rfl, hM.cons a⟩
    | swap x y l => intro N hN; cases N with
      | nil => simp [shL] at hN
      | cons a t => cases t with
        | nil => simp [shL] at hN
        | cons b u =>
          have hN' : x = shI a ∧ y = shI b ∧ l = shL u := by simpa [shL] using hN
          exact ⟨b :: a :: u, by rw [hN'.1, hN'.2.1, hN'.2.2]; rfl, .swap a b u⟩
    | trans h1 h2 ih1 ih2 => intro N hN; obtain ⟨M, e, hM⟩ := ih2 N hN; obtain ⟨K, e2, hK⟩ := ih1 M e; exact ⟨K, e2, hK.trans hM⟩
  obtain ⟨M, e, h⟩ := hm hq N rfl
  exact ⟨M, e, h.length_eq, h⟩
theorem turn_made {P : Nat → Prop} (D : Nat) (R : List Int) (A : Option Addr) (c k : Nat) (N : List ShN) (least : Nat) (w : World) (hd : DiceAt w D R) (hS : ShP P w A c (shL N)) (hsh : Short (shL N)) (hl : N.length ≤ 100000) (hle : least ≤ 100000) (hk : k = N.length) :
    Calls Tryd.prog 26 #[.pointer (some ⟨D, 0, none⟩), .slice A k c, .int .i64 (least : Int)] w (TurnM D N least w) := by
  rw [hk, ← shL_len]
  refine (turn_any D R A c (shL N) least w hd hS hsh (by rw [shL_len]; exact hl) hle).mono ?_
  rintro e w' ⟨A', c', m, Q, R', rfl, hq, hm, hlm, h1, h2, h3⟩
  obtain ⟨M, rfl, hM, hp⟩ := unshL hq
  rw [shL_len] at hm hlm
  have hl' : (M.take m).length = m := by rw [List.length_take]; omega
  rw [shL_take] at h1
  exact ⟨A', c', M.take m, R', by rw [hl'], ⟨M, hp, by rw [hl']⟩, by omega, by omega, h1, h2, h3⟩

theorem combine_made {p n h : Nat} {sec : List Nat} {N : List ShN} {P : Nat → Prop} (H : Made p n h sec N) (PN : PlanN p n h) (A : Option Addr) (c k : Nat) (w : World) (hB : Bases w) (hS : ShP P w A c (shL N)) (hm : sec.length ≤ 2048) (hl : N.length ≤ 1048576) (hk : k = N.length) (hn : n ≤ N.length) :
    Calls Tryd.prog 27 #[planV p n h, .slice A k c] w (ListErr sec 0 w) := by
  have h1 := H.cm PN hm hn
  have := combine_any p n h A c (shL N) w PN.pv hB hS (H.short (by omega)) (by rw [shL_len]; exact hl)
  rw [h1.1, h1.2, shL_len, ← hk] at this
  exact this
theorem combine_few {p n h : Nat} {sec : List Nat} {N : List ShN} {P : Nat → Prop} (H : Made p n h sec N) (PN : PlanN p n h) (A : Option Addr) (c k : Nat) (w : World) (hB : Bases w) (hS : ShP P w A c (shL N)) (hm : sec.length ≤ 2048) (hl : N.length ≤ 1048576) (hk : k = N.length) (hn : N.length < n) :
    Calls Tryd.prog 27 #[planV p n h, .slice A k c] w (ListErr [] 5 w) := by
  have h1 := H.few PN hm hn
  have := combine_any p n h A c (shL N) w PN.pv hB hS (H.short (by omega)) (by rw [shL_len]; exact hl)
  rw [h1.1, h1.2, shL_len, ← hk] at this
  exact this
theorem fits_made {p n h : Nat} {sec : List Nat} {N : List ShN} {P : Nat → Prop} (H : Made p n h sec N) (PN : PlanN p n h) (A : Option Addr) (c k : Nat) (w : World) (hB : Bases w) (hS : ShP P w A c (shL N)) (hm : sec.length ≤ 2048) (hl : N.length ≤ 1048576) (hk : k = N.length) :
    Calls Tryd.prog 29 #[planV p n h, .slice A k c] w (RetB (.bool true) w) := by
  have h1 := H.ft PN hm
  have := fits_any p n h A c (shL N) w PN.pv hB hS (H.short (by omega)) (by rw [shL_len]; exact hl)
  rw [h1, shL_len, ← hk] at this
  exact this
theorem below_drewT (w : World) : Below w.heap.size w w.drew := below_drewN (Below.refl _ w) 1
theorem ShP.drewT {P : Nat → Prop} {w : World} {A : Option Addr} {c : Nat} {S : List Shr} (h : ShP P w A c S) : ShP P w.drew A c S := h.below (below_drewT w)
theorem Held.drewT {w : World} {D : Nat} {A : Option Addr} {c : Nat} {L : List Nat} (h : Held w D A c L) : Held w.drew D A c L := h.below (below_drewT w)
theorem Env.drewT {w0 w : World} {D : Nat} {R : List Int} (h : Env w0 w D R) : Env w0 w.drew D R := h.mv (below_drewT w)
/-- Two equal lists. -/
theorem same_at (A A' : Option Addr) (L : List Nat) (k k' c c' : Nat) (w : World) (hL : NatsAt w A L) (hM : NatsAt w A' L) (hl : L.length ≤ 1152921504606846976) (hk : k = L.length) (hk' : k' = L.length) :
    Calls Tryd.prog 28 #[.slice A k c, .slice A' k' c'] w (Ret (.bool true) w) := by
  subst hk; subst hk'; exact same_nats A A' L c c' w hL hM hl
theorem ListErr.held {L : List Nat} {er : Int} {w w' : World} {e : Ending} {D : Nat} (h : ListErr L er w e w') (hD : D < w.heap.size) : ∃ A c, e = .returned (.tuple #[.slice A L.length c, .int .i64 er]) ∧ Held w' D A c L ∧ Below w.heap.size w w' := by
  obtain ⟨A, c, rfl, h1, h2, h3, h4⟩ := h
  exact ⟨A, c, rfl, held_new hD h1 h2 h3, h4⟩
end Go.Proofs.YtkjpnhhkebbmdaaDoor
