/-
  Shares: what is dealt.
-/
import Derived.Test.YtkjpnhhkebbmdaaDoorShQ
import Derived.Laws.AppendOwnNone
namespace Go.Proofs.YtkjpnhhkebbmdaaDoor
open Go.RowKit

/-- append of a slice, nil or not, onto a row of the own. -/
theorem app_sl {ops : Array Oper} {rest : List Oper} {o : Oper} {a : Act} {Q : Exit → Act → World → Prop} (hgd : o.guard = none) (s x : Operand)
    (ho : o.op = .call { callee := .builtin .append, args := #[s, x], argTypes := #[22, 22] })
    {base : Nat} {w : World} {v : Value} {S : List Nat} (T : List Nat) (ad : Option Addr) (c : Nat) (hs : a.eval s = v) (hown : w.ownsRow base 3 1 v S.length (valsN S))
    (hx : a.eval x = .slice ad T.length c) (hT : NatsAt w ad T) (hN : ad = none → T.length = 0 ∧ c = 0) (hsp : T.length = 0 ∨ ∀ a, ad = some a → a.spot = none) (hl : S.length + T.length ≤ 4294967296) (hbase : base ≤ w.heap.size)
    (h : ∀ v' w', w'.ownsRow base 3 1 v' (S ++ T).length (valsN (S ++ T)) → Below base w w' → wpList Tryd.prog ops Q rest (a.put o.dst v') w') :
    wpList Tryd.prog ops Q (o :: rest) a w := by
  obtain ⟨i0, hi, hz0, hz1, hz2⟩ := info_parts info_int
  rcases ad with _ | ad
  · obtain ⟨h1, rfl⟩ := hN rfl
    have : T = [] := List.eq_nil_of_length_eq_zero h1
    subst this
    refine wpList_append_own_none hgd s x 22 ho base 3 i0 1 Tryd.underlying22 hi v S.length (valsN S) hs hown hx ?_
    exact h v w (by rw [List.append_nil]; exact hown) (Below.refl _ _)
  · refine app_nats hgd s x ho hs hown hx ?_ hl hbase fun v' w' h1 _ h3 => h v' w' h1 h3
    rcases hsp with h0 | h0
    · have : T = [] := List.eq_nil_of_length_eq_zero h0
      subst this
      intro j u hj; simp at hj
    · exact hT.news (h0 ad rfl)

def polN (sec ran : List Nat) (k i : Nat) : List Nat := [nthN sec i] ++ (ran.drop (i * k)).take k
def dealtT (p h : Nat) (sec ran : List Nat) (k m : Nat) : List ShN := (List.range h).map fun j => (j + 1, (List.range m).map fun i => evN p (polN sec ran k i) (j + 1))
theorem dealtT_len (p h : Nat) (sec ran : List Nat) (k m : Nat) : (dealtT p h sec ran k m).length = h := by simp [dealtT]
theorem dealtT_at {p h : Nat} {sec ran : List Nat} {k m j : Nat} (hj : j < h) : hN (dealtT p h sec ran k m) j = j + 1 ∧ vN (dealtT p h sec ran k m) j = (List.range m).map fun i => evN p (polN sec ran k i) (j + 1) := by
  simp [dealtT, hN, vN, List.getD_eq_getElem?_getD, hj]
theorem dealtT_zero (p h : Nat) (sec ran : List Nat) (k : Nat) : dealtT p h sec ran k 0 = emptyT h := by simp [dealtT, emptyT]
theorem dealtT_succ (p h : Nat) (sec ran : List Nat) (k m : Nat) : stepT p (polN sec ran k m) (dealtT p h sec ran k m) (dealtT p h sec ran k m).length = dealtT p h sec ran k (m + 1) := by
  refine shl_ext (by rw [stepT_len, dealtT_len, dealtT_len]) fun j hj => ?_
  rw [stepT_len, dealtT_len] at hj
  obtain ⟨e1, e2⟩ := stepT_at (p := p) (f := polN sec ran k m) (T := dealtT p h sec ran k m) (k := (dealtT p h sec ran k m).length) (j := j) (by rw [dealtT_len]; exact hj)
  rw [if_pos (by rw [dealtT_len]; exact hj)] at e2
  obtain ⟨e3, e4⟩ := dealtT_at (p := p) (sec := sec) (ran := ran) (k := k) (m := m) hj
  obtain ⟨e5, e6⟩ := dealtT_at (p := p) (sec := sec) (ran := ran) (k := k) (m := m + 1) hj
  rw [e1, e2, e3, e4, e5, e6, List.range_succ, List.map_append]
  exact ⟨rfl, rfl⟩
theorem polN_len {sec ran : List Nat} {k i : Nat} : (polN sec ran k i).length ≤ k + 1 := by
  unfold polN; rw [List.length_append, List.length_take]; simp; omega
theorem polN_lt {p : Nat} (hp : 1 ≤ p) {sec ran : List Nat} (h1 : ∀ x ∈ sec, x < p) (h2 : ∀ x ∈ ran, x < p) (k i : Nat) : ∀ x ∈ polN sec ran k i, x < p := by
  unfold polN
  refine app_lt (fun x hx => ?_) (fun x hx => h2 x (List.mem_of_mem_drop (List.mem_of_mem_take hx)))
  simp at hx; subst hx; exact nthN_lt hp h1 i
/-- The shares of a secret. -/
def dealN (p n h : Nat) (sec ran : List Nat) : List ShN := dealtT p h sec ran (n - 1) sec.length
def dlE (p n h : Int) (sec ran : List Int) : Int := if plB p n h = true then (if 2048 < sec.length then 3 else if inside p sec = true ∧ inside p ran = true ∧ (ran.length : Int) = sec.length * (n - 1) then 0 else 2) else 1
def dlL (p n h : Int) (sec ran : List Int) : List ShN := if dlE p n h sec ran = 0 then dealN p.toNat n.toNat h.toNat (sec.map Int.toNat) (ran.map Int.toNat) else []
theorem dlL_no {p n h : Int} {sec ran : List Int} (H : dlE p n h sec ran ≠ 0) : dlL p n h sec ran = [] := by unfold dlL; rw [if_neg H]
theorem dlE_pl {p n h : Int} {sec ran : List Int} (H : plB p n h = false) : dlE p n h sec ran = 1 := by unfold dlE; rw [H]; rfl
theorem dlE_big {p n h : Int} {sec ran : List Int} (H : plB p n h = true) (H2 : 2048 < sec.length) : dlE p n h sec ran = 3 := by unfold dlE; rw [if_pos H, if_pos H2]
theorem dlE_bad {p n h : Int} {sec ran : List Int} (H : plB p n h = true) (H2 : ¬ 2048 < sec.length) (H3 : ¬ (inside p sec = true ∧ inside p ran = true ∧ (ran.length : Int) = sec.length * (n - 1))) : dlE p n h sec ran = 2 := by unfold dlE; rw [if_pos H, if_neg H2, if_neg H3]
theorem dlE_ok {p n h : Int} {sec ran : List Int} (H : plB p n h = true) (H2 : ¬ 2048 < sec.length) (H3 : inside p sec = true ∧ inside p ran = true ∧ (ran.length : Int) = sec.length * (n - 1)) : dlE p n h sec ran = 0 := by unfold dlE; rw [if_pos H, if_neg H2, if_pos H3]

theorem prod_bd {c n : Int} (h1 : 0 ≤ c) (h2 : c ≤ 1048576) (h3 : 1 ≤ n) (h4 : n ≤ 1048576) : 0 ≤ c * (n - 1) ∧ c * (n - 1) ≤ 1099511627776 := by
  constructor
  · exact Int.mul_nonneg h1 (by omega)
  · have := Int.mul_le_mul h2 (show n - 1 ≤ 1048576 by omega) (by omega) (by omega)
    omega
set_option maxHeartbeats 400000 in
theorem random_any (p n h c : Int) (w : World) (h1 : 0 ≤ c) (h2 : c ≤ 1048576) (h3 : 1 ≤ n) (h4 : n ≤ 1048576) :
    Calls Tryd.prog 23 #[planV p n h, .int .i64 c] w (RetB (.int .i64 (c * (n - 1))) w) := by
  obtain ⟨b1, b2⟩ := prod_bd h1 h2 h3 h4
  go_enter Tryd.func23, Tryd.ntmps23
  go_wp2_with fail
  go_ret
  exact RetB.int rfl (below_alloc _ _)
set_option maxHeartbeats 400000 in
theorem refRandom_any (p n h c : Int) (w : World) (h1 : 0 ≤ c) (h2 : c ≤ 1048576) (h3 : 1 ≤ n) (h4 : n ≤ 1048576) :
    Calls Tryd.prog 24 #[planV p n h, .int .i64 c] w (RetB (.int .i64 (c * (n - 1))) w) := by
  obtain ⟨b1, b2⟩ := prod_bd h1 h2 h3 h4
  go_enter Tryd.func24, Tryd.ntmps24
  go_wp2_with fail
  go_ret
  exact RetB.int rfl (below_alloc _ _)
end Go.Proofs.YtkjpnhhkebbmdaaDoor
