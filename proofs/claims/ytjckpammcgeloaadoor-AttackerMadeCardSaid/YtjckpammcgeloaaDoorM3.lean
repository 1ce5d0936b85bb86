/-
  Shares of elements: as natural numbers; their holders, their values at a place.
  Shares: the error of a list that is to give a secret; the secret.
  Shares: the secret that shares give.
  Shares: the holders and the values at a place, both at once.
  Shares: the secret that shares give, by the document.
  Shares: whether they fit.
  Shares: whether they fit, by the document.
  Shares: rows of shares of the own; dealers.
  Shares: a dealer of shares without values.
  Shares: a dealer deals an element.
  Shares: what is dealt.
  Shares: Deal.
  Shares: copies.
  Shares: plans of dice; lists in another order.
  Shares that lie on polynomials: they are good, give the values at 0, and fit; dealt shares; the sanity check.
  Shares: what stands while dice are thrown.
  Shares: a plan of the statements, and shares of a secret as the calls make and take them.
  Conditions: those that each theorem names.
-/
import Derived.Test.YtjckpammcgeloaaDoorM2
import Derived.Deep.RegionHeld3
import Derived.Deep.AppendLies
import Derived.Deep.RegionLaw
import Derived.Conc.EntryLaws
import Derived.Deep.DeepCutAuto
import Derived.Laws.AppendOwnNone
import Derived.StillTailTactics
set_option linter.unusedVariables false
set_option linter.unusedSimpArgs false
namespace Go.Proofs.YtjckpammcgeloaaDoor
open Go.RowKit

abbrev ShN := Nat × List Nat
def shI (s : ShN) : Shr := ((s.1 : Int), ofN s.2)
def hN (N : List ShN) (k : Nat) : Nat := (N.getD k (0, [])).1
def vN (N : List ShN) (k : Nat) : List Nat := (N.getD k (0, [])).2
def shL (N : List ShN) : List Shr := N.map shI
theorem shL_len (N : List ShN) : (shL N).length = N.length := by simp [shL]
theorem hS_shL {N : List ShN} {k : Nat} (_ : k < N.length) : hS (shL N) k = (hN N k : Int) := by
  simp only [hS, hN, shL, List.getD_eq_getElem?_getD, List.getElem?_map]
  cases N[k]? <;> rfl
theorem vS_shL (N : List ShN) (k : Nat) : vS (shL N) k = ofN (vN N k) := by
  simp only [vS, vN, shL, List.getD_eq_getElem?_getD, List.getElem?_map]
  cases N[k]? <;> rfl
theorem shL_take (N : List ShN) (k : Nat) : (shL N).take k = shL (N.take k) := by simp [shL, List.map_take]
def hsN (N : List ShN) : List Nat := N.map Prod.fst
def colN (N : List ShN) (i : Nat) : List Nat := N.map fun s => nthN s.2 i
theorem hsN_len (N : List ShN) : (hsN N).length = N.length := by simp [hsN]
theorem colN_len (N : List ShN) (i : Nat) : (colN N i).length = N.length := by simp [colN]
theorem hsN_nth {N : List ShN} {k : Nat} (h : k < N.length) : nthN (hsN N) k = hN N k := by
  rw [nthN_eq (by rw [hsN_len]; exact h)]; simp [hsN, hN, List.getD_eq_getElem?_getD, h]
theorem colN_nth {N : List ShN} {i k : Nat} (h : k < N.length) : nthN (colN N i) k = nthN (vN N k) i := by
  rw [nthN_eq (by rw [colN_len]; exact h)]; simp [colN, vN, List.getD_eq_getElem?_getD, h]
theorem getD_at {N : List ShN} {k : Nat} (h : k < N.length) : N[k] = (hN N k, vN N k) := by simp [hN, vN, List.getD_eq_getElem?_getD, h]
theorem hsN_take {N : List ShN} {k : Nat} (h : k < N.length) : hsN (N.take (k + 1)) = hsN (N.take k) ++ [hN N k] := by
  rw [List.take_succ_eq_append_getElem h, getD_at h]; simp only [hsN, List.map_append, List.map_cons, List.map_nil]
theorem colN_take {N : List ShN} {i k : Nat} (h : k < N.length) : colN (N.take (k + 1)) i = colN (N.take k) i ++ [nthN (vN N k) i] := by
  rw [List.take_succ_eq_append_getElem h, getD_at h]; simp only [colN, List.map_append, List.map_cons, List.map_nil]
theorem hN_take {N : List ShN} {k j : Nat} (h : j < k) : hN (N.take k) j = hN N j := by simp [hN, List.getD_eq_getElem?_getD, h]
theorem vN_take {N : List ShN} {k j : Nat} (h : j < k) : vN (N.take k) j = vN N j := by simp [vN, List.getD_eq_getElem?_getD, h]
theorem shl_mem {N : List ShN} {s : ShN} (h : s ∈ N) : ∃ k, k < N.length ∧ s = (hN N k, vN N k) := by
  obtain ⟨k, hk, e⟩ := List.getElem_of_mem h
  exact ⟨k, hk, by rw [← e, getD_at hk]⟩
/-- A share in a list of natural shares, in memory. -/
theorem ShP.nat {P : Nat → Prop} {w : World} {A : Option Addr} {c : Nat} {N : List ShN} (h : ShP P w A c (shL N)) {k : Nat} (hk : k < N.length) :
    ∃ b off B c', A = some ⟨b, off, none⟩ ∧ b < w.heap.size ∧ P b ∧ w.cell? ⟨b, off + k * 2, none⟩ = some (.int .i64 (hN N k : Nat)) ∧
      w.cell? ⟨b, off + k * 2 + 1, none⟩ = some (.slice B (vN N k).length c') ∧ NatsAt w B (vN N k) ∧ IntsP P w B c' (ofN (vN N k)) := by
  obtain ⟨b, off, B, c', hA, hb, hP, h1, h2, h3⟩ := h.at_ k (by rw [shL_len]; exact hk)
  rw [hS_shL hk] at h1
  rw [vS_shL, len_ofN] at h2
  rw [vS_shL] at h3
  exact ⟨b, off, B, c', hA, hb, hP, h1, h2, h3.ints.nats, h3⟩
theorem ShP.cap {P : Nat → Prop} {w : World} {A : Option Addr} {c : Nat} {N : List ShN} (h : ShP P w A c (shL N)) : N.length ≤ c := by
  have := h.ok.len; rw [shL_len] at this; exact this

theorem lit1_at (w : World) (g x : Nat) (h : g = w.heap.size) : NatBlk (w.alloc (.cells #[.int .i64 (x : Int)] 3)) g [x] := by subst h; exact lit1_nats w x
end Go.Proofs.YtjckpammcgeloaaDoor
namespace Go.Proofs.YtjckpammcgeloaaDoor
open Go.RowKit

/-! ### Good lists are of natural numbers -/
structure GoodN (p h : Nat) (N : List ShN) : Prop where
  rng : ∀ k, k < N.length → 1 ≤ hN N k ∧ hN N k ≤ h ∧ ∀ x ∈ vN N k, x < p
  len : ∀ k, k < N.length → (vN N k).length = (vN N 0).length
  few : ∀ k, k < N.length → (vN N k).length ≤ 2048
  nd : (hsN N).Nodup
def natS (s : Shr) : ShN := (s.1.toNat, s.2.map Int.toNat)
def natL (S : List Shr) : List ShN := S.map natS
theorem natL_len (S : List Shr) : (natL S).length = S.length := by simp [natL]
theorem toNat_ofN (L : List Nat) : (ofN L).map Int.toNat = L := by simp [ofN, Function.comp_def]
theorem natL_shL (N : List ShN) : natL (shL N) = N := by
  simp only [natL, shL, List.map_map]
  conv => rhs; rw [← List.map_id N]
  refine List.map_congr_left fun s _ => ?_
  simp only [Function.comp, natS, shI, Int.toNat_natCast, toNat_ofN, id]
theorem inside_nat {p : Nat} {L : List Int} (h : inside (p : Int) L = true) : ofN (L.map Int.toNat) = L ∧ ∀ x ∈ L.map Int.toNat, x < p := by
  unfold inside at h
  rw [List.all_eq_true] at h
  refine ⟨?_, fun x hx => ?_⟩
  · simp only [ofN, List.map_map]
    conv => rhs; rw [← List.map_id L]
    refine List.map_congr_left fun x hx => ?_
    have := h x hx
    simp only [Bool.and_eq_true, decide_eq_true_eq] at this
    simp only [Function.comp, id]; omega
  · obtain ⟨y, hy, rfl⟩ := List.mem_map.1 hx
    have := h y hy
    simp only [Bool.and_eq_true, decide_eq_true_eq] at this
    omega
theorem nat_inside {p : Nat} {L : List Nat} (h : ∀ x ∈ L, x < p) : inside (p : Int) (ofN L) = true := by
  unfold inside
  rw [List.all_eq_true]
  intro x hx
  obtain ⟨y, hy, rfl⟩ := List.mem_map.1 hx
  have := h y hy
  simp only [Bool.and_eq_true, decide_eq_true_eq]; omega
theorem nodup_hsN {N : List ShN} (h : ∀ k, k < N.length → ∀ j, j < k → hN N j ≠ hN N k) : (hsN N).Nodup := by
  refine List.pairwise_iff_getElem.2 fun i j hi hj hij => ?_
  have e1 : (hsN N)[i] = hN N i := by rw [← nthN_eq hi, hsN_nth (by rw [hsN_len] at hi; exact hi)]
  have e2 : (hsN N)[j] = hN N j := by rw [← nthN_eq hj, hsN_nth (by rw [hsN_len] at hj; exact hj)]
  rw [e1, e2]
  exact h j (by rw [hsN_len] at hj; exact hj) i hij
theorem hsN_ne {N : List ShN} (h : (hsN N).Nodup) {i j : Nat} (hi : i < N.length) (hj : j < N.length) (hij : i ≠ j) : hN N i ≠ hN N j := fun e => by
  have hi' : i < (hsN N).length := by rw [hsN_len]; exact hi
  have hj' : j < (hsN N).length := by rw [hsN_len]; exact hj
  have e1 : (hsN N)[i] = hN N i := by rw [← nthN_eq hi', hsN_nth hi]
  have e2 : (hsN N)[j] = hN N j := by rw [← nthN_eq hj', hsN_nth hj]
  exact hij ((List.getElem_inj (h₀ := hi') (h₁ := hj') h).1 (by rw [e1, e2, e]))
theorem gd_nat {p h : Nat} {S : List Shr} (g : GdP p h S) : S = shL (natL S) ∧ GoodN p h (natL S) := by
  have hst : ∀ k, k < S.length → 1 ≤ hS S k ∧ hS S k ≤ h ∧ inside (p : Int) (vS S k) = true := fun k hk => stB_bd (g k hk).st
  have hk0 : ∀ k, k < S.length → hN (natL S) k = (hS S k).toNat ∧ vN (natL S) k = (vS S k).map Int.toNat := fun k hk => by
    simp [hN, vN, natL, natS, hS, vS, List.getD_eq_getElem?_getD, hk]
  have heq : S = shL (natL S) := by
    refine List.ext_getElem (by rw [shL_len, natL_len]) fun k h1 h2 => ?_
    have hs := hst k h1
    have e1 : S[k] = (hS S k, vS S k) := by simp [hS, vS, List.getD_eq_getElem?_getD, h1]
    simp only [shL, natL, List.getElem_map, natS, shI]
    rw [e1]
    simp only
    rw [(inside_nat hs.2.2).1, Int.toNat_of_nonneg (by omega)]
  refine ⟨heq, fun k hk => ?_, fun k hk => ?_, fun k hk => ?_, nodup_hsN fun k hk j hj => ?_⟩
  · rw [natL_len] at hk
    have hs := hst k hk
    obtain ⟨e1, e2⟩ := hk0 k hk
    rw [e1, e2]
    exact ⟨by omega, by omega, (inside_nat hs.2.2).2⟩
  · rw [natL_len] at hk
    rw [(hk0 k hk).2, (hk0 0 (by omega)).2, List.length_map, List.length_map]; exact (g k hk).len
  · rw [natL_len] at hk
    rw [(hk0 k hk).2, List.length_map]; exact (g k hk).few
  · rw [natL_len] at hk
    have h1 := hst k hk
    have h2 := hst j (by omega)
    have h3 := (g k hk).new j hj
    rw [(hk0 k hk).1, (hk0 j (by omega)).1]; omega
theorem gd_back {p h : Nat} {N : List ShN} (g : GoodN p h N) : GdP p h (shL N) := fun k hk => by
  rw [shL_len] at hk
  obtain ⟨r1, r2, r3⟩ := g.rng k hk
  refine ⟨?_, ?_, ?_, fun j hj => ?_⟩
  · rw [hS_shL hk, vS_shL]
    unfold stB
    rw [decide_eq_true (by omega), decide_eq_true (by omega), nat_inside r3]; rfl
  · rw [vS_shL, vS_shL, len_ofN, len_ofN]; exact g.len k hk
  · rw [vS_shL, len_ofN]; exact g.few k hk
  · rw [hS_shL hk, hS_shL (by omega)]
    have := hsN_ne g.nd (show j < N.length by omega) hk (by omega)
    omega
theorem GoodN.take {p h : Nat} {N : List ShN} (g : GoodN p h N) (n : Nat) (hn : n ≤ N.length) : GoodN p h (N.take n) := by
  have hl : (N.take n).length = n := by rw [List.length_take]; omega
  refine ⟨fun k hk => ?_, fun k hk => ?_, fun k hk => ?_, ?_⟩
  · rw [hN_take (by omega), vN_take (by omega)]; exact g.rng k (by omega)
  · rw [vN_take (by omega), vN_take (by omega)]; exact g.len k (by omega)
  · rw [vN_take (by omega)]; exact g.few k (by omega)
  · have : hsN (N.take n) = (hsN N).take n := by simp [hsN, List.map_take]
    rw [this]; exact g.nd.sublist (List.take_sublist _ _)
theorem GoodN.hlt {p h : Nat} {N : List ShN} (g : GoodN p h N) (hp : h < p) : ∀ y ∈ hsN N, y < p := fun y hy => by
  obtain ⟨s, hs, rfl⟩ := List.mem_map.1 hy
  obtain ⟨k, hk, rfl⟩ := shl_mem hs
  have := g.rng k hk; simp only; omega
theorem GoodN.clt {p h : Nat} {N : List ShN} (g : GoodN p h N) (hp : 1 ≤ p) (i : Nat) : ∀ y ∈ colN N i, y < p := fun y hy => by
  obtain ⟨s, hs, rfl⟩ := List.mem_map.1 hy
  obtain ⟨k, hk, rfl⟩ := shl_mem hs
  exact nthN_lt hp (g.rng k hk).2.2 i

/-! ### The error, the secret -/
noncomputable def cmE (p n h : Int) (S : List Shr) : Int := if plB p n h = true then (if gdB p h S = true then (if (S.length : Int) < n then 5 else 0) else 1) else 1
theorem cmE_pl {p n h : Int} {S : List Shr} (H : plB p n h = false) : 1 = cmE p n h S := by unfold cmE; rw [H]; rfl
theorem cmE_gd {p n h : Int} {S : List Shr} (H : gdB p h S = false) : 1 = cmE p n h S := by unfold cmE; rw [H]; split <;> rfl
theorem cmE_few {p n h : Int} {S : List Shr} (H : plB p n h = true) (H2 : gdB p h S = true) (H3 : (S.length : Int) < n) : 5 = cmE p n h S := by unfold cmE; rw [H, H2]; simp [H3]
theorem cmE_ok {p n h : Int} {S : List Shr} (H : plB p n h = true) (H2 : gdB p h S = true) (H3 : ¬ (S.length : Int) < n) : 0 = cmE p n h S := by unfold cmE; rw [H, H2]; simp [H3]
theorem cmE_zero {p n h : Int} {S : List Shr} (H : cmE p n h S = 0) : plB p n h = true ∧ gdB p h S = true ∧ n ≤ S.length := by
  unfold cmE at H
  split at H
  · split at H
    · split at H
      · cases H
      · exact ⟨by assumption, by assumption, by omega⟩
    · cases H
  · cases H
def combN (p n : Nat) (N : List ShN) : List Nat := (List.range (vN N 0).length).map fun i => wgN p (wsN p (hsN (N.take n)) 0) (colN (N.take n) i) n
theorem combN_len (p n : Nat) (N : List ShN) : (combN p n N).length = (vN N 0).length := by simp [combN]
theorem combN_nth {p n : Nat} {N : List ShN} {i : Nat} (h : i < (vN N 0).length) : nthN (combN p n N) i = wgN p (wsN p (hsN (N.take n)) 0) (colN (N.take n) i) n := by
  rw [nthN_eq (by rw [combN_len]; exact h)]; simp [combN]
theorem combN_take {p n : Nat} {N : List ShN} {i : Nat} (h : i < (vN N 0).length) : (combN p n N).take (i + 1) = (combN p n N).take i ++ [wgN p (wsN p (hsN (N.take n)) 0) (colN (N.take n) i) n] := by
  rw [List.take_succ_eq_append_getElem (by rw [combN_len]; exact h), ← nthN_eq, combN_nth h]
noncomputable def cmL (p n h : Int) (S : List Shr) : List Nat := if cmE p n h S = 0 then combN p.toNat n.toNat (natL S) else []
theorem cmL_no {p n h : Int} {S : List Shr} (H : cmE p n h S ≠ 0) : cmL p n h S = [] := by unfold cmL; rw [if_neg H]
theorem cmL_ok {p n h : Nat} {N : List ShN} (H : cmE p n h (shL N) = 0) : cmL p n h (shL N) = combN p n N := by
  unfold cmL; rw [if_pos H, natL_shL, Int.toNat_natCast, Int.toNat_natCast]

end Go.Proofs.YtjckpammcgeloaaDoor
namespace Go.Proofs.YtjckpammcgeloaaDoor
open Go.RowKit

attribute [local go_sem high] sliced_low
/-- append of one number in a region that draws its order, its slice just made. -/
theorem step_app_nat {ops : Array Oper} {o : Oper} {a : Act} {K : Act → World → Prop} {Q : Exit → Act → World → Prop} {E : Prop} (W : World) (hgd : o.guard = none) (s x : Operand)
    (ho : o.op = .call { callee := .builtin .append, args := #[s, x], argTypes := #[22, 22] })
    (w5 : World) (base : Nat) (v : Value) (S : List Nat) (y : Nat) (hs : a.eval s = v) (hx : a.eval x = .slice (some ⟨w5.heap.size, 0, none⟩) 1 1)
    (hW : W.heap = (w5.alloc (.cells #[.int .i64 (y : Int)] 3)).heap ∧ W.os = w5.os ∧ W.tape = w5.tape ∧ W.output = w5.output)
    (hown : w5.ownsRow base 3 1 v S.length (valsN S)) (hl : S.length ≤ 4194304) (hbase : base ≤ w5.heap.size)
    (h : ∀ v' w', w'.ownsRow base 3 1 v' (S ++ [y]).length (valsN (S ++ [y])) → Below base w5 w' → K (a.put o.dst v') w') :
    if Region.wanted o (yielded ops a.tmps) = true then Oper.wp Tryd.prog o a W K Q else E := by
  obtain ⟨i0, hi, hz0, hz1, hz2⟩ := info_parts info_int
  have hownW : W.ownsRow base 3 1 v S.length (valsN S) := by
    obtain ⟨h1, h2⟩ := own_below hown (below_alloc w5 (.cells #[.int .i64 (y : Int)] 3))
    refine ⟨h1, ?_⟩
    rw [hW.1]; exact h2
  have hsz : W.heap.size = w5.heap.size + 1 := by rw [hW.1]; simp
  have hcell : ∀ x, W.cell? x = (w5.alloc (.cells #[.int .i64 (y : Int)] 3)).cell? x := fun x => by unfold World.cell?; rw [hW.1]
  refine step_append_lies _ hgd s x 22 ho base 3 i0 _ 1 8 Tryd.underlying22 hi hz0 hz1 hz2 rfl (by omega) v S.length (valsN S) hs hownW ⟨w5.heap.size, 0, none⟩ 1 1 (valsN [y]) hx rfl (fun j u hu => (hcell _).trans ((lit1_nats w5 y).nats.news rfl j u hu)) (valsN_one [y]) (by omega) (by unfold maxLen; omega) (by omega) (by omega) _ rfl ?_
  intro g cap w' ho' hg _ _
  have hbW : Below base w5 W := ⟨hW.2.1, hW.2.2.1, hW.2.2.2, by omega, fun k hk => by rw [hW.1]; exact heap_alloc_old w5 _ (by omega)⟩
  refine h _ w' ?_ (hbW.trans ((Below.refl _ _).grown hg (by omega) (fun k hk => by have := (hown.lt k hk).1; omega)))
  rw [List.length_append]; simpa [valsN] using ho'
theorem combN_part {p n : Nat} {N : List ShN} {i : Nat} (h : i ≤ (vN N 0).length) : ((combN p n N).take i).length = i := by rw [List.length_take, combN_len]; omega

end Go.Proofs.YtjckpammcgeloaaDoor
namespace Go.Proofs.YtjckpammcgeloaaDoor
open Go.RowKit

/-- Two rows of the own, in blocks that differ. -/
structure Two (w0 W : World) (base lo : Nat) (vx : Value) (X : List Nat) (vy : Value) (Y : List Nat) : Prop where
  ox : W.ownsRow base 3 1 vx X.length (valsN X)
  oy : W.ownsRow base 3 1 vy Y.length (valsN Y)
  ne : ∀ b, vx.ownBlock = some b → vy.ownBlock = some b → False
  below : Below base w0 W
  size : base ≤ W.heap.size
  up : lo ≤ W.heap.size
theorem Two.later {w0 W W' : World} {base lo : Nat} {vx vy : Value} {X Y : List Nat} (h : Two w0 W base lo vx X vy Y) (hb : Below W.heap.size W W') : Two w0 W' base lo vx X vy Y :=
  ⟨own_below h.ox hb, own_below h.oy hb, h.ne, h.below.trans (hb.mono h.size), Nat.le_trans h.size hb.size, Nat.le_trans h.up hb.size⟩
theorem Two.raise {w0 W : World} {base lo lo' : Nat} {vx vy : Value} {X Y : List Nat} (h : Two w0 W base lo vx X vy Y) (hl : lo' ≤ W.heap.size) : Two w0 W base lo' vx X vy Y := ⟨h.ox, h.oy, h.ne, h.below, h.size, hl⟩
theorem Two.alloc {w0 W : World} {base lo : Nat} {vx vy : Value} {X Y : List Nat} (h : Two w0 W base lo vx X vy Y) (o : Obj) : Two w0 (W.alloc o) base lo vx X vy Y := h.later (below_alloc _ _)
theorem Two.swap {w0 W : World} {base lo : Nat} {vx vy : Value} {X Y : List Nat} (h : Two w0 W base lo vx X vy Y) : Two w0 W base lo vy Y vx X := ⟨h.oy, h.ox, fun b e1 e2 => h.ne b e2 e1, h.below, h.size, h.up⟩
theorem Two.drew {w0 W : World} {base lo : Nat} {vx vy : Value} {X Y : List Nat} (h : Two w0 W base lo vx X vy Y) : Two w0 W.drew base lo vx X vy Y := ⟨h.ox, h.oy, h.ne, h.below.drew, h.size, h.up⟩
theorem step_two {ops : Array Oper} {o : Oper} {a : Act} {K : Act → World → Prop} {Q : Exit → Act → World → Prop} {E : Prop} (W : World) (hgd : o.guard = none) (s x : Operand)
    (ho : o.op = .call { callee := .builtin .append, args := #[s, x], argTypes := #[22, 22] })
    (w0 : World) (base lo g : Nat) (vx : Value) (X : List Nat) (vy : Value) (Y : List Nat) (y : Nat) (hs : a.eval s = vx) (hx : a.eval x = .slice (some ⟨g, 0, none⟩) 1 1)
    (hT : Two w0 W base lo vx X vy Y) (hL : NatBlk W g [y]) (hl : X.length ≤ 4194304)
    (h : ∀ v' w', Two w0 w' base lo v' (X ++ [y]) vy Y → (∀ g' L, NatBlk W g' L → (∀ b, vx.ownBlock = some b → b ≠ g') → NatBlk w' g' L) → (∀ q : Addr, q.block < lo → (∀ b, vx.ownBlock = some b → b ≠ q.block) → w'.cell? q = W.cell? q) → W.heap.size ≤ w'.heap.size → K (a.put o.dst v') w') :
    if Region.wanted o (yielded ops a.tmps) = true then Oper.wp Tryd.prog o a W K Q else E := by
  obtain ⟨i0, hi, hz0, hz1, hz2⟩ := info_parts info_int
  refine step_append_lies _ hgd s x 22 ho base 3 i0 _ 1 8 Tryd.underlying22 hi hz0 hz1 hz2 rfl (by omega) vx X.length (valsN X) hs hT.ox ⟨g, 0, none⟩ 1 1 (valsN [y]) hx rfl (hL.nats.news rfl) (valsN_one [y]) (by omega) (by unfold maxLen; omega) (by omega) hT.size _ rfl ?_
  intro g1 cap w' ho' hg hat _
  have hB : Below base W w' := (Below.refl _ _).grown hg hT.size (fun k hk => (hT.ox.lt k hk).1)
  refine h _ w' ⟨by rw [List.length_append]; simpa [valsN] using ho', ?_, ?_, hT.below.trans hB, Nat.le_trans hT.size hg.size, Nat.le_trans hT.up hg.size⟩ ?_ (fun q hq hne => World.cell?_of_block (w := W) (hg.block q.block (Nat.lt_of_lt_of_le hq hT.up) (fun e => hne q.block e.symm rfl))) hg.size
  · refine hT.oy.kept hg ?_
    rcases hy : vy.ownBlock with _ | b
    · exact .inl rfl
    · exact .inr (fun e => hT.ne b e.symm hy)
  · intro b e1 e2
    have hb1 : b = g1 := (Option.some.inj (show some g1 = some b from e1)).symm
    subst hb1
    rcases hat with e | e
    · exact hT.ne b e e2
    · have := (hT.oy.lt b e2).2; omega
  · intro g' L hN hne
    exact (hg.block g' hN.lt (fun e => hne g' e.symm rfl)).trans hN
theorem drew_size (w : World) : w.drew.heap.size = w.heap.size := rfl
theorem NatBlk.drew {w : World} {g : Nat} {L : List Nat} (h : NatBlk w g L) : NatBlk w.drew g L := h
theorem NatBlk.alloc {w : World} {g : Nat} {L : List Nat} (h : NatBlk w g L) (o : Obj) : NatBlk (w.alloc o) g L := h.below (below_alloc _ _)
theorem Two.farx {w0 W : World} {base lo : Nat} {vx vy : Value} {X Y : List Nat} (h : Two w0 W base lo vx X vy Y) (g : Nat) (hg : W.heap.size ≤ g) : ∀ b, vx.ownBlock = some b → b ≠ g := fun b e => by have := (h.ox.lt b e).2; omega

/-- The call returns two new lists. -/
def NewTwo (X Y : List Nat) (w : World) (e : Ending) (w' : World) : Prop :=
  ∃ A c B c', e = .returned (.tuple #[.slice A X.length c, .slice B Y.length c']) ∧ Two w w' w.heap.size w.heap.size (.slice A X.length c) X (.slice B Y.length c') Y

end Go.Proofs.YtjckpammcgeloaaDoor
namespace Go.Proofs.YtjckpammcgeloaaDoor
open Go.RowKit

attribute [local go_sem high] sliced_low
theorem Two.lists {w w' : World} {base lo : Nat} {A B : Option Addr} {c c' : Nat} {X Y : List Nat} (h : Two w w' base lo (.slice A X.length c) X (.slice B Y.length c') Y) :
    NatsAt w' A X ∧ SlOK A c X ∧ NatsAt w' B Y ∧ SlOK B c' Y := by
  obtain ⟨_, _, hv, h1, h2, -⟩ := own_sl h.ox rfl
  injection hv with e1 _ e3
  subst e1; subst e3
  obtain ⟨_, _, hv, h3, h4, -⟩ := own_sl h.oy rfl
  injection hv with e1 _ e3
  subst e1; subst e3
  exact ⟨h1, h2, h3, h4⟩
end Go.Proofs.YtjckpammcgeloaaDoor
namespace Go.Proofs.YtjckpammcgeloaaDoor
open Go.RowKit

attribute [local go_sem high] sliced_low
def fitAt (p n : Nat) (N : List ShN) (k i : Nat) : Prop := wgN p (wsN p (hsN (N.take n)) (hN N k)) (colN (N.take n) i) n = nthN (vN N k) i
def FitP (p n : Nat) (N : List ShN) : Prop := ∀ k, n ≤ k → k < N.length → ∀ i, i < (vN N 0).length → fitAt p n N k i
noncomputable def fitB (p n : Nat) (N : List ShN) : Bool := @decide (FitP p n N) (Classical.propDecidable _)
noncomputable def ftB (p n h : Int) (S : List Shr) : Bool := if plB p n h = true then (if gdB p h S = true then (if (S.length : Int) ≤ n then true else fitB p.toNat n.toNat (natL S)) else false) else false
theorem ftB_pl {p n h : Int} {S : List Shr} (H : plB p n h = false) : false = ftB p n h S := by unfold ftB; rw [H]; rfl
theorem ftB_gd {p n h : Int} {S : List Shr} (H : gdB p h S = false) : false = ftB p n h S := by unfold ftB; rw [H]; split <;> rfl
theorem ftB_few {p n h : Int} {S : List Shr} (H : plB p n h = true) (H2 : gdB p h S = true) (H3 : (S.length : Int) ≤ n) : true = ftB p n h S := by unfold ftB; rw [H, H2]; simp [H3]
theorem ftB_more {p n h : Int} {S : List Shr} (H : plB p n h = true) (H2 : gdB p h S = true) (H3 : ¬ (S.length : Int) ≤ n) : fitB p.toNat n.toNat (natL S) = ftB p n h S := by unfold ftB; rw [H, H2]; simp [H3]
theorem ftB_no {p n : Nat} {N : List ShN} {b : Bool} (H : fitB p n N = b) (k : Nat) (hk1 : n ≤ k) (hk2 : k < N.length) (i : Nat) (hi : i < (vN N 0).length) (hc : ¬ fitAt p n N k i) : false = b := by
  rw [← H]; exact (@decide_eq_false _ (Classical.propDecidable _) (fun g => hc (g k hk1 hk2 i hi))).symm
theorem ftB_yes {p n : Nat} {N : List ShN} {b : Bool} (H : fitB p n N = b) (hc : FitP p n N) : true = b := by
  rw [← H]; exact (@decide_eq_true _ (Classical.propDecidable _) hc).symm
theorem ShP.drop {P : Nat → Prop} {w : World} {b off c n : Nat} {N : List ShN} (h : ShP P w (some ⟨b, off, none⟩) c (shL N)) (hn : n < N.length) : ShP P w (some ⟨b, off + n * 2, none⟩) (c - n) (shL (N.drop n)) := by
  have hc := h.cap
  refine ⟨fun k hk => ?_, ⟨by rw [shL_len, List.length_drop]; omega, Nat.le_trans (Nat.sub_le _ _) h.ok.cap, (fun e => by cases e), .inr (fun a e => by injection e with e; subst e; rfl)⟩⟩
  rw [shL_len, List.length_drop] at hk
  obtain ⟨b', off', B, c', hA, hb, hP, h1, h2, h3⟩ := h.at_ (n + k) (by rw [shL_len]; omega)
  injection hA with e0
  injection e0 with e1 e2
  subst e1; subst e2
  have e1 : hS (shL (N.drop n)) k = hS (shL N) (n + k) := by simp [hS, shL, List.getD_eq_getElem?_getD]
  have e2 : vS (shL (N.drop n)) k = vS (shL N) (n + k) := by simp [vS, shL, List.getD_eq_getElem?_getD]
  refine ⟨b, off + n * 2, B, c', rfl, hb, hP, ?_⟩
  rw [e1, e2, show off + n * 2 + k * 2 = off + (n + k) * 2 by omega]
  exact ⟨h1, h2, h3⟩
theorem hN_drop {N : List ShN} {n k : Nat} : hN (N.drop n) k = hN N (n + k) := by simp [hN, List.getD_eq_getElem?_getD]
theorem vN_drop {N : List ShN} {n k : Nat} : vN (N.drop n) k = vN N (n + k) := by simp [vN, List.getD_eq_getElem?_getD]

end Go.Proofs.YtjckpammcgeloaaDoor
namespace Go.Proofs.YtjckpammcgeloaaDoor
open Go.RowKit

attribute [local go_sem high] sliced_low

end Go.Proofs.YtjckpammcgeloaaDoor
namespace Go.Proofs.YtjckpammcgeloaaDoor
open Go.RowKit

/-! ### Rows of shares of the own -/
abbrev HV := Int × Value
def flatH : List HV → List Value
  | [] => []
  | x :: H => .int .i64 x.1 :: x.2 :: flatH H
def hvAt (H : List HV) (k : Nat) : HV := H.getD k (0, .slice none 0 0)
theorem flatH_len : ∀ H : List HV, (flatH H).length = H.length * 2
  | [] => rfl
  | x :: H => by simp [flatH, flatH_len H]; omega
theorem flatH_append : ∀ H K : List HV, flatH (H ++ K) = flatH H ++ flatH K
  | [], K => rfl
  | x :: H, K => by simp [flatH, flatH_append H K]
theorem flatH_at : ∀ (H : List HV) (k : Nat), k < H.length → (flatH H)[k * 2]? = some (.int .i64 (hvAt H k).1) ∧ (flatH H)[k * 2 + 1]? = some (hvAt H k).2
  | [], k, h => absurd h (by simp)
  | x :: H, 0, _ => by simp [flatH, hvAt]
  | x :: H, k + 1, h => by
    have ih := flatH_at H k (by simpa using h)
    rw [show (k + 1) * 2 = k * 2 + 1 + 1 by omega]
    simp only [flatH, List.getElem?_cons_succ]
    exact ih
theorem flatH_set1 : ∀ (H : List HV) (i : Nat) (v : Value), i < H.length → (flatH H).set (i * 2 + 1) v = flatH (H.set i ((hvAt H i).1, v))
  | [], i, _, h => absurd h (by simp)
  | y :: H, 0, v, _ => by simp [flatH, hvAt]
  | y :: H, i + 1, v, h => by
    rw [show (i + 1) * 2 + 1 = i * 2 + 1 + 1 + 1 by omega]
    simp only [flatH, List.set_cons_succ]
    rw [flatH_set1 H i v (by simpa using h)]
    simp [hvAt]
theorem flatH_set0 : ∀ (H : List HV) (i : Nat) (x : Int), i < H.length → (flatH H).set (i * 2) (.int .i64 x) = flatH (H.set i (x, (hvAt H i).2))
  | [], i, _, h => absurd h (by simp)
  | y :: H, 0, x, _ => by simp [flatH, hvAt]
  | y :: H, i + 1, x, h => by
    rw [show (i + 1) * 2 = i * 2 + 1 + 1 by omega]
    simp only [flatH, List.set_cons_succ]
    rw [flatH_set0 H i x (by simpa using h)]
    simp [hvAt]
theorem hvAt_set_same (H : List HV) (i : Nat) (x : HV) (h : i < H.length) : hvAt (H.set i x) i = x := by simp [hvAt, List.getD_eq_getElem?_getD, h]
theorem hvAt_set_other (H : List HV) (i j : Nat) (x : HV) (h : i ≠ j) : hvAt (H.set i x) j = hvAt H j := by simp [hvAt, List.getD_eq_getElem?_getD, h]
def isSl : Value → Bool
  | .slice _ _ _ => true
  | _ => false
theorem flatH_one (H : List HV) (h : ∀ k, k < H.length → isSl (hvAt H k).2 = true) : ∀ u ∈ flatH H, u.oneCell' = true := by
  induction H with
  | nil => intro u hu; cases hu
  | cons x H ih =>
    intro u hu
    simp only [flatH, List.mem_cons] at hu
    rcases hu with rfl | rfl | hu
    · rfl
    · have := h 0 (by simp)
      simp only [hvAt, List.getD_cons_zero] at this
      revert this
      cases x.2 <;> simp [isSl, Value.oneCell']
    · exact ih (fun k hk => by have := h (k + 1) (by simpa using hk); simpa [hvAt] using this) u hu
def HvOwn (w : World) (base : Nat) (v : Value) (H : List HV) : Prop := w.ownsRow base 35 2 v H.length (flatH H)
theorem HvOwn.below {w w' : World} {base : Nat} {v : Value} {H : List HV} (h : HvOwn w base v H) (hb : Below w.heap.size w w') : HvOwn w' base v H := own_below h hb
theorem HvOwn.nil (w : World) (base : Nat) : HvOwn w base (.slice none 0 0) [] := ⟨rfl, .inl ⟨rfl, rfl⟩⟩
/-- What a row of the own looks like. -/
theorem HvOwn.form {w : World} {base : Nat} {v : Value} {H : List HV} (h : HvOwn w base v H) (hl : 0 < H.length) :
    ∃ g c, v = .slice (some ⟨g, 0, none⟩) H.length c ∧ g < w.heap.size ∧ base ≤ g ∧ H.length ≤ c ∧ c ≤ maxLen ∧ (∀ k, k < H.length → w.cell? ⟨g, k * 2, none⟩ = some (.int .i64 (hvAt H k).1) ∧ w.cell? ⟨g, k * 2 + 1, none⟩ = some (hvAt H k).2) ∧ ∀ j, w.frozen? ⟨g, j, none⟩ = false := by
  rcases h.2 with ⟨_, h0⟩ | ⟨g, cap, cur, rfl, hg, hh, hnc, hcm, hcs, htk⟩
  · omega
  · refine ⟨g, cap, rfl, blk_lt hh, hg, hnc, hcm, fun k hk => ?_, fun j => by simp [World.frozen?, hh]⟩
    obtain ⟨f1, f2⟩ := flatH_at H k hk
    exact ⟨by rw [h.cellAt (j := k * 2) (by omega)]; exact f1, by rw [h.cellAt (j := k * 2 + 1) (by omega)]; exact f2⟩
theorem HvOwn.set_cell {w : World} {base g c i : Nat} {H H' : List HV} (u : Value) (j : Nat) (h : HvOwn w base (.slice (some ⟨g, 0, none⟩) H.length c) H) (hl : H'.length = H.length) (hj : j < H.length * 2) (he : flatH H' = (flatH H).set j u) (_ : i = j) :
    HvOwn (w.setCell ⟨g, j, none⟩ u) base (.slice (some ⟨g, 0, none⟩) H'.length c) H' := by
  rcases h.2 with ⟨h0, _⟩ | ⟨g', cap, cur, hv, hg, hh, hnc, hcm, hcs, htk⟩
  · cases h0
  · injection hv with h1 h2 h3
    injection h1 with h1
    injection h1 with h1
    subst h1; subst h3
    refine ⟨by rw [flatH_len], .inr ⟨g, c, cur.setIfInBounds j u, by rw [hl], hg, ?_, by rw [hl]; exact hnc, hcm, by simpa using hcs, ?_⟩⟩
    · simp [World.setCell, Array.getElem?_modify, hh]
    · rw [hl, he, ← htk]
      simp [List.take_set]
theorem HvOwn.set1 {w : World} {base g c : Nat} {H : List HV} (h : HvOwn w base (.slice (some ⟨g, 0, none⟩) H.length c) H) (i : Nat) (hi : i < H.length) (v : Value) :
    HvOwn (w.setCell ⟨g, i * 2 + 1, none⟩ v) base (.slice (some ⟨g, 0, none⟩) H.length c) (H.set i ((hvAt H i).1, v)) := by
  have := HvOwn.set_cell (i := i * 2 + 1) (H' := H.set i ((hvAt H i).1, v)) v (i * 2 + 1) h (by simp) (by omega) (flatH_set1 H i v hi).symm rfl
  rwa [List.length_set] at this
theorem HvOwn.set0 {w : World} {base g c : Nat} {H : List HV} (h : HvOwn w base (.slice (some ⟨g, 0, none⟩) H.length c) H) (i : Nat) (hi : i < H.length) (x : Int) :
    HvOwn (w.setCell ⟨g, i * 2, none⟩ (.int .i64 x)) base (.slice (some ⟨g, 0, none⟩) H.length c) (H.set i (x, (hvAt H i).2)) := by
  have := HvOwn.set_cell (i := i * 2) (H' := H.set i (x, (hvAt H i).2)) (.int .i64 x) (i * 2) h (by simp) (by omega) (flatH_set0 H i x hi).symm rfl
  rwa [List.length_set] at this
theorem HvOwn.kept {w w' : World} {base : Nat} {v : Value} {H : List HV} {row : Option Nat} (h : HvOwn w base v H) (hg : w.grownBy w' row) (hne : v.ownBlock = none ∨ v.ownBlock ≠ row) : HvOwn w' base v H := World.ownsRow.kept h hg hne
theorem own_other {w : World} {base : Nat} {e : TypeId} {size : Nat} {v : Value} {n : Nat} {xs : List Value} (h : w.ownsRow base e size v n xs) (p : Addr) (u : Value) (hp : ∀ b, v.ownBlock = some b → b ≠ p.block) : (w.setCell p u).ownsRow base e size v n xs := by
  obtain ⟨h1, h2⟩ := h
  refine ⟨h1, ?_⟩
  rcases h2 with h2 | ⟨g, cap, cur, hv, hg, hh, r⟩
  · exact .inl h2
  · exact .inr ⟨g, cap, cur, hv, hg, (Below.heap_setCell w p u g (hp g (by rw [hv]; rfl))).trans hh, r⟩

/-! ### Rows of shares whose values are rows of the own too -/
structure Rows2 (w : World) (base : Nat) (v : Value) (H : List HV) (T : List ShN) : Prop where
  out : HvOwn w base v H
  len : H.length = T.length
  hold : ∀ k, k < T.length → (hvAt H k).1 = (hN T k : Int)
  row : ∀ k, k < T.length → w.ownsRow base 3 1 (hvAt H k).2 (vN T k).length (valsN (vN T k))
  ne : ∀ i j, i < T.length → j < T.length → i ≠ j → ∀ b, (hvAt H i).2.ownBlock = some b → (hvAt H j).2.ownBlock = some b → False
  no : ∀ i, i < T.length → ∀ b, (hvAt H i).2.ownBlock = some b → v.ownBlock = some b → False
theorem Rows2.below {w w' : World} {base : Nat} {v : Value} {H : List HV} {T : List ShN} (h : Rows2 w base v H T) (hb : Below w.heap.size w w') : Rows2 w' base v H T :=
  ⟨h.out.below hb, h.len, h.hold, fun k hk => own_below (h.row k hk) hb, h.ne, h.no⟩
theorem own_sl2 {w : World} {base : Nat} {v : Value} {L : List Nat} (h : w.ownsRow base 3 1 v L.length (valsN L)) : isSl v = true := by
  obtain ⟨A, c, rfl, -⟩ := own_sl h rfl; rfl
/-- What such a row is to readers. -/
theorem Rows2.read {w : World} {base : Nat} {v : Value} {H : List HV} {T : List ShN} (h : Rows2 w base v H T) : ∃ A c, v = .slice A T.length c ∧ ShP (fun b => base ≤ b) w A c (shL T) := by
  rcases Nat.eq_zero_or_pos T.length with h0 | h0
  · have : T = [] := List.eq_nil_of_length_eq_zero h0
    subst this
    have hH : H = [] := List.eq_nil_of_length_eq_zero h.len
    have ho := h.out
    subst hH
    rcases ho.2 with ⟨rfl, -⟩ | ⟨g, cap, cur, rfl, hg, hh, hnc, hcm, hcs, htk⟩
    · exact ⟨none, 0, rfl, ShP.nil _ _⟩
    · exact ⟨_, cap, rfl, fun k hk => absurd hk (by simp [shL]), ⟨Nat.zero_le _, hcm, (fun e => by cases e), .inl rfl⟩⟩
  · obtain ⟨g, c, rfl, hg, hbg, hlc, hcm, hcell, -⟩ := h.out.form (by rw [h.len]; exact h0)
    refine ⟨some ⟨g, 0, none⟩, c, by rw [h.len], fun k hk => ?_, ⟨by rw [shL_len, ← h.len]; exact hlc, hcm, (fun e => by cases e), .inr (fun a e => by injection e with e; subst e; rfl)⟩⟩
    rw [shL_len] at hk
    obtain ⟨c1, c2⟩ := hcell k (by rw [h.len]; exact hk)
    obtain ⟨B, c', hv, hN, hS, hb⟩ := own_sl (h.row k hk) rfl
    refine ⟨g, 0, B, c', rfl, hg, hbg, ?_, ?_, ?_⟩
    · rw [Nat.zero_add, c1, h.hold k hk, hS_shL hk]
    · rw [Nat.zero_add, c2, hv, vS_shL, len_ofN]
    · rw [vS_shL]
      exact ⟨hN.ints, by rw [len_ofN]; exact hS.iok, fun b off e => .inr (hb b off e).1⟩
end Go.Proofs.YtjckpammcgeloaaDoor
namespace Go.Proofs.YtjckpammcgeloaaDoor
open Go.RowKit

/-- append of one share onto a row of the own. -/
theorem app_hv {ops : Array Oper} {rest : List Oper} {o : Oper} {a : Act} {Q : Exit → Act → World → Prop} (hgd : o.guard = none) (s x : Operand)
    (ho : o.op = .call { callee := .builtin .append, args := #[s, x], argTypes := #[33, 33] })
    {base : Nat} {w : World} {v : Value} {H : List HV} {g : Nat} (y : HV) (hs : a.eval s = v) (hown : HvOwn w base v H)
    (hx : a.eval x = .slice (some ⟨g, 0, none⟩) 1 1) (hg : w.heap[g]? = some (.cells #[.int .i64 y.1, y.2] 35 (0, 0))) (hy : isSl y.2 = true) (hl : H.length ≤ 1048576) (hbase : base ≤ w.heap.size)
    (h : ∀ v' w', HvOwn w' base v' (H ++ [y]) → w.grownBy w' v.ownBlock → Below base w w' → (v'.ownBlock = v.ownBlock ∨ v'.ownBlock = some w.heap.size) → wpList Tryd.prog ops Q rest (a.put o.dst v') w') :
    wpList Tryd.prog ops Q (o :: rest) a w := by
  obtain ⟨i0, hi, hz0, hz1, hz2⟩ := info_parts info_share
  refine wpList_append_own_at w hgd s x 33 ho base 35 i0 _ 2 32 Tryd.underlying33 hi hz0 hz1 hz2 rfl (by omega) v H.length (flatH H) hs hown ⟨g, 0, none⟩ 1 1 (flatH [y]) hx (flatH_len [y]) (fun j u hu => ?_) (flatH_one [y] (fun k hk => ?_)) (by unfold maxLen; omega) (by omega) hbase ?_
  · have hj : j < 2 := by
      rcases Nat.lt_or_ge j 2 with h1 | h1
      · exact h1
      · rw [List.getElem?_eq_none (by rw [flatH_len]; simp; omega)] at hu; cases hu
    have : j = 0 ∨ j = 1 := by omega
    rcases this with rfl | rfl
    · rw [show (⟨g, 0, none⟩ : Addr).add 0 = ⟨g, 0, none⟩ from rfl, cell_of_row w g 0 _ _ (0, 0) hg, ← hu]; rfl
    · rw [show (⟨g, 0, none⟩ : Addr).add 1 = ⟨g, 1, none⟩ from rfl, cell_of_row w g 1 _ _ (0, 0) hg, ← hu]; rfl
  · have : k = 0 := by simp at hk; omega
    subst this; exact hy
  · intro v' w' h2 h3 _ h5
    refine h v' w' ?_ h3 ((Below.refl _ _).grown h3 hbase (fun k hk => (World.ownsRow.lt hown k hk).1)) h5
    unfold HvOwn; rw [List.length_append, flatH_append]; exact h2

def emptyT (k : Nat) : List ShN := (List.range k).map fun m => (m + 1, [])
theorem emptyT_len (k : Nat) : (emptyT k).length = k := by simp [emptyT]
theorem emptyT_succ (k : Nat) : emptyT (k + 1) = emptyT k ++ [(k + 1, [])] := by simp [emptyT, List.range_succ]
theorem hvAt_append {H K : List HV} {k : Nat} (h : k < H.length) : hvAt (H ++ K) k = hvAt H k := by simp [hvAt, List.getD_eq_getElem?_getD, List.getElem?_append_left h]
theorem hvAt_last {H : List HV} {y : HV} : hvAt (H ++ [y]) H.length = y := by simp [hvAt, List.getD_eq_getElem?_getD]
theorem hN_append {T K : List ShN} {k : Nat} (h : k < T.length) : hN (T ++ K) k = hN T k ∧ vN (T ++ K) k = vN T k := by simp [hN, vN, List.getD_eq_getElem?_getD, List.getElem?_append_left h]
theorem hN_last {T : List ShN} {y : ShN} : hN (T ++ [y]) T.length = y.1 ∧ vN (T ++ [y]) T.length = y.2 := by simp [hN, vN, List.getD_eq_getElem?_getD]
/-- One share without values more. -/
theorem Rows2.more {w w' : World} {base : Nat} {v v' : Value} {H : List HV} {T : List ShN} (h : Rows2 w base v H T) (x : Nat) (xi : Int) (hx : xi = (x : Int)) (hown : HvOwn w' base v' (H ++ [(xi, .slice none 0 0)])) (hg : w.grownBy w' v.ownBlock)
    (hv : v'.ownBlock = v.ownBlock ∨ v'.ownBlock = some w.heap.size) : Rows2 w' base v' (H ++ [(xi, .slice none 0 0)]) (T ++ [(x, [])]) := by
  subst hx
  have hl := h.len
  have hcase : ∀ k, k < (T ++ [(x, [])]).length → k < T.length ∨ k = T.length := fun k hk => by simp at hk; omega
  refine ⟨hown, by simp [hl], fun k hk => ?_, fun k hk => ?_, fun i j hi hj hij b e1 e2 => ?_, fun i hi b e1 e2 => ?_⟩
  · rcases hcase k hk with hk | rfl
    · rw [hvAt_append (by omega), (hN_append hk).1]; exact h.hold k hk
    · rw [← hl, hvAt_last, hl, hN_last.1]
  · rcases hcase k hk with hk | rfl
    · rw [hvAt_append (by omega), (hN_append hk).2]
      refine (h.row k hk).kept hg ?_
      rcases he : (hvAt H k).2.ownBlock with _ | b
      · exact .inl rfl
      · exact .inr (fun e => h.no k hk b he e.symm)
    · rw [← hl, hvAt_last, hl, hN_last.2]; exact World.ownsRow_nil _ _ _ _
  · rcases hcase i hi with hi | rfl
    · rcases hcase j hj with hj | rfl
      · rw [hvAt_append (by omega)] at e1 e2; exact h.ne i j hi hj hij b e1 e2
      · rw [← hl, hvAt_last] at e2; cases e2
    · rw [← hl, hvAt_last] at e1; cases e1
  · rcases hcase i hi with hi | rfl
    · rw [hvAt_append (by omega)] at e1
      rcases hv with e | e
      · exact h.no i hi b e1 (e ▸ e2)
      · have := (World.ownsRow.lt (h.row i hi) b e1).2
        rw [e] at e2; injection e2 with e2; omega
    · rw [← hl, hvAt_last] at e1; cases e1
theorem HvOwn.sl {w : World} {base : Nat} {v : Value} {H : List HV} (h : HvOwn w base v H) : ∃ A c, v = .slice A H.length c := by
  rcases h.2 with ⟨rfl, h0⟩ | ⟨g, cap, cur, rfl, -⟩
  · exact ⟨none, 0, by rw [h0]⟩
  · exact ⟨_, cap, rfl⟩
theorem HvOwn.slx {w : World} {base : Nat} {v : Value} {H : List HV} {y : HV} (h : HvOwn w base v (H ++ [y])) : ∃ A c, v = .slice A (H.length + 1) c := by
  obtain ⟨A, c, e⟩ := h.sl
  exact ⟨A, c, by rw [e]; simp⟩
theorem Rows2.other {w : World} {base : Nat} {v : Value} {H : List HV} {T : List ShN} (h : Rows2 w base v H T) (q : Addr) (u : Value) (hq : q.block < base) : Rows2 (w.setCell q u) base v H T :=
  ⟨own_other h.out q u (fun b e => by have := (World.ownsRow.lt h.out b e).1; omega), h.len, h.hold, fun k hk => own_other (h.row k hk) q u (fun b e => by have := (World.ownsRow.lt (h.row k hk) b e).1; omega), h.ne, h.no⟩
end Go.Proofs.YtjckpammcgeloaaDoor
namespace Go.Proofs.YtjckpammcgeloaaDoor
open Go.RowKit

theorem Rows2.grow {w W w' : World} {base g c : Nat} {H : List HV} {T : List ShN} (h : Rows2 w base (.slice (some ⟨g, 0, none⟩) H.length c) H T) (k : Nat) (hk : k < T.length) (y : Nat) (g' cap : Nat) (hW : Below w.heap.size w W)
    (hown : w'.ownsRow base 3 1 (.slice (some ⟨g', 0, none⟩) ((vN T k).length + 1) cap) ((vN T k).length + 1) (valsN (vN T k ++ [y]))) (hg : W.grownBy w' (hvAt H k).2.ownBlock) (hat : (hvAt H k).2.ownBlock = some g' ∨ g' = W.heap.size) :
    Rows2 (w'.setCell ⟨g, k * 2 + 1, none⟩ (.slice (some ⟨g', 0, none⟩) ((vN T k).length + 1) cap)) base (.slice (some ⟨g, 0, none⟩) H.length c) (H.set k ((hvAt H k).1, .slice (some ⟨g', 0, none⟩) ((vN T k).length + 1) cap)) (T.set k (hN T k, vN T k ++ [y])) := by
  have hl := h.len
  have hWs := hW.size
  have hgb : ∀ b, (Value.slice (some ⟨g, 0, none⟩) H.length c).ownBlock = some b → b = g := fun b e => (Option.some.inj (show some g = some b from e)).symm
  have hrg : ∀ j, j < T.length → ∀ b, (hvAt H j).2.ownBlock = some b → b ≠ g := fun j hj b e e2 => h.no j hj b e (by rw [e2]; rfl)
  have hW1 := h.below hW
  have hout := hW1.out.kept hg (by
    rcases he : (hvAt H k).2.ownBlock with _ | b
    · exact .inr (fun e => by cases e)
    · exact .inr (fun e => hrg k hk b he (Option.some.inj (show some g = some b from e)).symm))
  have hg'g : g' ≠ g := by
    rcases hat with e | e
    · exact hrg k hk g' e
    · have := (World.ownsRow.lt h.out g rfl).2; omega
  have hTs : ∀ j, j ≠ k → hN (T.set k (hN T k, vN T k ++ [y])) j = hN T j ∧ vN (T.set k (hN T k, vN T k ++ [y])) j = vN T j := fun j hj => by
    simp [hN, vN, List.getD_eq_getElem?_getD, List.getElem?_set_ne (Ne.symm hj)]
  have hTk : hN (T.set k (hN T k, vN T k ++ [y])) k = hN T k ∧ vN (T.set k (hN T k, vN T k ++ [y])) k = vN T k ++ [y] := by
    simp [hN, vN, List.getD_eq_getElem?_getD, hk]
  have hrows : ∀ j, j < T.length → j ≠ k → w'.ownsRow base 3 1 (hvAt H j).2 (vN T j).length (valsN (vN T j)) := fun j hj hjk => (hW1.row j hj).kept hg (by
    rcases he : (hvAt H j).2.ownBlock with _ | b
    · exact .inl rfl
    · exact .inr (fun e => h.ne j k hj hk hjk b he e.symm))
  have hbk : ∀ j, j < T.length → j ≠ k → ∀ b, (hvAt H j).2.ownBlock = some b → b ≠ g' := fun j hj hjk b e e2 => by
    rcases hat with e3 | e3
    · exact h.ne j k hj hk hjk b e (by rw [e3, e2])
    · have := (World.ownsRow.lt (h.row j hj) b e).2; omega
  have hs := hout.set1 k (by omega) (.slice (some ⟨g', 0, none⟩) ((vN T k).length + 1) cap)
  refine ⟨?_, by simp [hl], fun j hj => ?_, fun j hj => ?_, fun i j hi hj hij b e1 e2 => ?_, fun i hi b e1 e2 => ?_⟩
  · exact hs
  · simp only [List.length_set] at hj
    by_cases hjk : j = k
    · subst hjk; rw [hvAt_set_same _ _ _ (by omega), hTk.1]; exact h.hold j hj
    · rw [hvAt_set_other _ _ _ _ (Ne.symm hjk), (hTs j hjk).1]; exact h.hold j hj
  · simp only [List.length_set] at hj
    by_cases hjk : j = k
    · subst hjk
      rw [hvAt_set_same _ _ _ (by omega), hTk.2, List.length_append]
      exact own_other hown _ _ (fun b e => by
        have : g' = b := Option.some.inj (show some g' = some b from e)
        subst this; exact hg'g)
    · rw [hvAt_set_other _ _ _ _ (Ne.symm hjk), (hTs j hjk).2]
      exact own_other (hrows j hj hjk) _ _ (fun b e => hrg j hj b e)
  · simp only [List.length_set] at hi hj
    by_cases hik : i = k
    · subst hik
      rw [hvAt_set_same _ _ _ (by omega)] at e1
      rw [hvAt_set_other _ _ _ _ hij] at e2
      exact hbk j hj (Ne.symm hij) b e2 (Option.some.inj (show some g' = some b from e1)).symm
    · rw [hvAt_set_other _ _ _ _ (Ne.symm hik)] at e1
      by_cases hjk : j = k
      · subst hjk
        rw [hvAt_set_same _ _ _ (by omega)] at e2
        exact hbk i hi hik b e1 (Option.some.inj (show some g' = some b from e2)).symm
      · rw [hvAt_set_other _ _ _ _ (Ne.symm hjk)] at e2
        exact h.ne i j hi hj hij b e1 e2
  · simp only [List.length_set] at hi
    have hb := hgb b (by simpa using e2)
    by_cases hik : i = k
    · subst hik
      rw [hvAt_set_same _ _ _ (by omega)] at e1
      exact hg'g ((Option.some.inj (show some g' = some b from e1)).trans hb)
    · rw [hvAt_set_other _ _ _ _ (Ne.symm hik)] at e1
      exact hrg i hi b e1 hb

def stepT (p : Nat) (f : List Nat) (T : List ShN) (k : Nat) : List ShN := (List.range T.length).map fun j => (hN T j, if j < k then vN T j ++ [evN p f (hN T j)] else vN T j)
theorem stepT_len (p : Nat) (f : List Nat) (T : List ShN) (k : Nat) : (stepT p f T k).length = T.length := by simp [stepT]
theorem stepT_at {p : Nat} {f : List Nat} {T : List ShN} {k j : Nat} (hj : j < T.length) : hN (stepT p f T k) j = hN T j ∧ vN (stepT p f T k) j = if j < k then vN T j ++ [evN p f (hN T j)] else vN T j := by
  simp [stepT, hN, vN, List.getD_eq_getElem?_getD, hj]
theorem shl_ext {S T : List ShN} (hl : S.length = T.length) (h : ∀ k, k < S.length → hN S k = hN T k ∧ vN S k = vN T k) : S = T := by
  refine List.ext_getElem hl fun k h1 h2 => ?_
  rw [getD_at h1, getD_at h2, (h k h1).1, (h k h1).2]
theorem set_at {S : List ShN} {k a : Nat} {b : List Nat} (hk : k < S.length) : hN (S.set k (a, b)) k = a ∧ vN (S.set k (a, b)) k = b := by simp [hN, vN, List.getD_eq_getElem?_getD, hk]
theorem stepT_zero (p : Nat) (f : List Nat) (T : List ShN) : stepT p f T 0 = T :=
  shl_ext (stepT_len _ _ _ _) fun k hk => by
    rw [stepT_len] at hk
    obtain ⟨e1, e2⟩ := stepT_at (p := p) (f := f) (k := 0) hk
    rw [e1, e2, if_neg (by omega)]; exact ⟨rfl, rfl⟩
theorem stepT_succ {p : Nat} {f : List Nat} {T : List ShN} {k : Nat} (hk : k < T.length) :
    stepT p f T (k + 1) = (stepT p f T k).set k (hN (stepT p f T k) k, vN (stepT p f T k) k ++ [evN p f (hN (stepT p f T k) k)]) := by
  refine shl_ext (by simp [stepT_len]) fun j hj => ?_
  rw [stepT_len] at hj
  obtain ⟨e1, e2⟩ := stepT_at (p := p) (f := f) (k := k + 1) hj
  obtain ⟨e3, e4⟩ := stepT_at (p := p) (f := f) (k := k) hj
  obtain ⟨e5, e6⟩ := stepT_at (p := p) (f := f) (k := k) hk
  rw [e1, e2]
  by_cases hjk : j = k
  · subst hjk
    have hs := set_at (S := stepT p f T j) (k := j) (a := hN (stepT p f T j) j) (b := vN (stepT p f T j) j ++ [evN p f (hN (stepT p f T j) j)]) (by rw [stepT_len]; exact hj)
    rw [hs.1, hs.2, e5, e6, if_pos (by omega), if_neg (by omega)]
    exact ⟨rfl, rfl⟩
  · have : hN ((stepT p f T k).set k (hN (stepT p f T k) k, vN (stepT p f T k) k ++ [evN p f (hN (stepT p f T k) k)])) j = hN (stepT p f T k) j ∧ vN ((stepT p f T k).set k (hN (stepT p f T k) k, vN (stepT p f T k) k ++ [evN p f (hN (stepT p f T k) k)])) j = vN (stepT p f T k) j := by
      simp [hN, vN, List.getD_eq_getElem?_getD, List.getElem?_set_ne (Ne.symm hjk)]
    rw [this.1, this.2, e3, e4]
    refine ⟨rfl, ?_⟩
    by_cases h1 : j < k
    · rw [if_pos h1, if_pos (by omega)]
    · rw [if_neg h1, if_neg (by omega)]
/-- The polynomial's list lies in none of the rows. -/
def FarF (F : Option Addr) (v : Value) (H : List HV) (m : Nat) : Prop := ∀ bF off, F = some ⟨bF, off, none⟩ → (∀ i, i < m → ∀ b, (hvAt H i).2.ownBlock = some b → b ≠ bF) ∧ ∀ b, v.ownBlock = some b → b ≠ bF
theorem NatsAt.keepF {w w' : World} {A : Option Addr} {L : List Nat} (h : NatsAt w A L) (hs : w.heap.size ≤ w'.heap.size) (hb : ∀ b off, A = some ⟨b, off, none⟩ → b < w.heap.size → w'.heap[b]? = w.heap[b]?) : NatsAt w' A L := fun k hk => by
  obtain ⟨b, off, hA, hlt, hc⟩ := h k hk
  exact ⟨b, off, hA, Nat.lt_of_lt_of_le hlt hs, (World.cell?_of_block (w := w) (hb b off hA hlt)).trans hc⟩
theorem Rows2.slot {w : World} {base : Nat} {v : Value} {H : List HV} {T : List ShN} (h : Rows2 w base v H T) {k : Nat} (hk : k < T.length) :
    ∃ g c B c', v = .slice (some ⟨g, 0, none⟩) H.length c ∧ (hvAt H k).2 = .slice B (vN T k).length c' ∧ g < w.heap.size ∧ base ≤ g ∧ w.cell? ⟨g, k * 2, none⟩ = some (.int .i64 (hN T k : Nat)) ∧ w.cell? ⟨g, k * 2 + 1, none⟩ = some (.slice B (vN T k).length c') ∧ ∀ j, w.frozen? ⟨g, j, none⟩ = false := by
  obtain ⟨g, c, hv, hg, hbg, -, -, hcell, hfr⟩ := h.out.form (by rw [h.len]; omega)
  obtain ⟨B, c', hv2, -⟩ := own_sl (h.row k hk) rfl
  obtain ⟨c1, c2⟩ := hcell k (by rw [h.len]; exact hk)
  exact ⟨g, c, B, c', hv, hv2, hg, hbg, by rw [c1, h.hold k hk], by rw [c2, hv2], hfr⟩
theorem grown_blk {wr w4 W w5 : World} {g : Nat} {r : Option Nat} (hg : g < wr.heap.size) (hb4 : Below wr.heap.size wr w4) (hbW : Below w4.heap.size w4 W) (hg5 : W.grownBy w5 r) (hne : some g ≠ r) : w5.heap[g]? = wr.heap[g]? :=
  (hg5.block g (Nat.lt_of_lt_of_le hg (Nat.le_trans hb4.size hbW.size)) hne).trans ((hbW.block g (Nat.lt_of_lt_of_le hg hb4.size)).trans (hb4.block g hg))
theorem frozen_of_block {w w' : World} {b o : Nat} (h : w'.heap[b]? = w.heap[b]?) : w'.frozen? ⟨b, o, none⟩ = w.frozen? ⟨b, o, none⟩ := by unfold World.frozen?; simp only; rw [h]
theorem deal_next {wr w4 W w5 : World} {base d g c k y g' cap : Nat} {H : List HV} {S : List ShN} {F : Option Addr} {f : List Nat} (hd : d < base) (hbase : base ≤ wr.heap.size)
    (hR : Rows2 wr base (.slice (some ⟨g, 0, none⟩) H.length c) H S) (hk : k < S.length) (hFar : FarF F (.slice (some ⟨g, 0, none⟩) H.length c) H S.length) (hF : NatsAt wr F f) (hFlt : ∀ bF off, F = some ⟨bF, off, none⟩ → bF < wr.heap.size)
    (hb4 : Below wr.heap.size wr w4) (hbW : Below w4.heap.size w4 W) (hown : w5.ownsRow base 3 1 (.slice (some ⟨g', 0, none⟩) ((vN S k).length + 1) cap) ((vN S k).length + 1) (valsN (vN S k ++ [y])))
    (hg5 : W.grownBy w5 (hvAt H k).2.ownBlock) (hat : (hvAt H k).2.ownBlock = some g' ∨ g' = W.heap.size) (hb5 : Below base w4 w5) :
    (w5.setCell ⟨g, k * 2 + 1, none⟩ (.slice (some ⟨g', 0, none⟩) ((vN S k).length + 1) cap)).heap[d]? = wr.heap[d]? ∧
    Rows2 (w5.setCell ⟨g, k * 2 + 1, none⟩ (.slice (some ⟨g', 0, none⟩) ((vN S k).length + 1) cap)) base (.slice (some ⟨g, 0, none⟩) H.length c) (H.set k ((hvAt H k).1, .slice (some ⟨g', 0, none⟩) ((vN S k).length + 1) cap)) (S.set k (hN S k, vN S k ++ [y])) ∧
    FarF F (.slice (some ⟨g, 0, none⟩) H.length c) (H.set k ((hvAt H k).1, .slice (some ⟨g', 0, none⟩) ((vN S k).length + 1) cap)) S.length ∧
    NatsAt (w5.setCell ⟨g, k * 2 + 1, none⟩ (.slice (some ⟨g', 0, none⟩) ((vN S k).length + 1) cap)) F f ∧
    Below base wr (w5.setCell ⟨g, k * 2 + 1, none⟩ (.slice (some ⟨g', 0, none⟩) ((vN S k).length + 1) cap)) := by
  have hgb := (World.ownsRow.lt hR.out g rfl)
  have hl := hR.len
  refine ⟨?_, (hR.below hb4).grow k hk y g' cap hbW hown hg5 hat, fun bF off e => ⟨fun i hi b e2 => ?_, fun b e2 => (hFar bF off e).2 b e2⟩, ?_, ?_⟩
  · rw [Below.heap_setCell _ _ _ _ (by simp; omega), hb5.block d hd, hb4.block d (by omega)]
  · by_cases hik : i = k
    · subst hik
      rw [hvAt_set_same _ _ _ (by omega)] at e2
      have hb : g' = b := Option.some.inj (show some g' = some b from e2)
      subst hb
      rcases hat with e3 | e3
      · exact (hFar bF off e).1 i hi g' e3
      · have h1 := hFlt bF off e
        have h2 := hb4.size
        have h3 := hbW.size
        omega
    · rw [hvAt_set_other _ _ _ _ (Ne.symm hik)] at e2
      exact (hFar bF off e).1 i hi b e2
  · refine hF.keepF (by have := hb4.size; have := hbW.size; have := hg5.size; simp [World.setCell]; omega) fun bF off e hlt => ?_
    have h1 := (hFar bF off e).2 g rfl
    rw [Below.heap_setCell _ _ _ _ (by simp; omega)]
    exact grown_blk hlt hb4 hbW hg5 (fun e2 => (hFar bF off e).1 k hk bF e2.symm rfl)
  · exact ((hb4.mono hbase).trans hb5).setCell (by simp; omega) _
/-- append of one number onto a row of the own, in a region that draws. -/
theorem step_app_row {ops : Array Oper} {o : Oper} {a : Act} {K : Act → World → Prop} {Q : Exit → Act → World → Prop} {E : Prop} (W : World) (hgd : o.guard = none) (s x : Operand)
    (ho : o.op = .call { callee := .builtin .append, args := #[s, x], argTypes := #[22, 22] })
    (w5 : World) (base : Nat) (v : Value) (S : List Nat) (y : Nat) (hs : a.eval s = v) (hx : a.eval x = .slice (some ⟨w5.heap.size, 0, none⟩) 1 1)
    (hW : W.heap = (w5.alloc (.cells #[.int .i64 (y : Int)] 3)).heap ∧ W.os = w5.os ∧ W.tape = w5.tape ∧ W.output = w5.output)
    (hown : w5.ownsRow base 3 1 v S.length (valsN S)) (hl : S.length ≤ 4194304) (hbase : base ≤ w5.heap.size)
    (h : ∀ g cap w', w'.ownsRow base 3 1 (.slice (some ⟨g, 0, none⟩) (S.length + 1) cap) (S.length + 1) (valsN (S ++ [y])) → W.grownBy w' v.ownBlock → Below w5.heap.size w5 W → (v.ownBlock = some g ∨ g = W.heap.size) → Below base w5 w' → K (a.put o.dst (.slice (some ⟨g, 0, none⟩) (S.length + 1) cap)) w') :
    if Region.wanted o (yielded ops a.tmps) = true then Oper.wp Tryd.prog o a W K Q else E := by
  obtain ⟨i0, hi, hz0, hz1, hz2⟩ := info_parts info_int
  have hownW : W.ownsRow base 3 1 v S.length (valsN S) := by
    obtain ⟨h1, h2⟩ := own_below hown (below_alloc w5 (.cells #[.int .i64 (y : Int)] 3))
    refine ⟨h1, ?_⟩
    rw [hW.1]; exact h2
  have hsz : W.heap.size = w5.heap.size + 1 := by rw [hW.1]; simp
  have hcell : ∀ x, W.cell? x = (w5.alloc (.cells #[.int .i64 (y : Int)] 3)).cell? x := fun x => by unfold World.cell?; rw [hW.1]
  refine step_append_lies _ hgd s x 22 ho base 3 i0 _ 1 8 Tryd.underlying22 hi hz0 hz1 hz2 rfl (by omega) v S.length (valsN S) hs hownW ⟨w5.heap.size, 0, none⟩ 1 1 (valsN [y]) hx rfl (fun j u hu => (hcell _).trans ((lit1_nats w5 y).nats.news rfl j u hu)) (valsN_one [y]) (by omega) (by unfold maxLen; omega) (by omega) (by omega) _ rfl ?_
  intro g cap w' ho' hg hat _
  have hbW : Below w5.heap.size w5 W := ⟨hW.2.1, hW.2.2.1, hW.2.2.2, by omega, fun k hk => by rw [hW.1]; exact heap_alloc_old w5 _ hk⟩
  refine h g cap w' ?_ hg hbW hat ((hbW.mono hbase).trans ((Below.refl _ _).grown hg (by omega) (fun k hk => by have := (hown.lt k hk).1; omega)))
  simpa [valsN] using ho'

/-- A call of a function by its contract, in a region that draws. -/
theorem step_call {ops : Array Oper} {o : Oper} {a : Act} {K : Act → World → Prop} {Q : Exit → Act → World → Prop} {E : Prop} {R : Ending → World → Prop} (W : World) (hgd : o.guard = none) (fid : FuncId) (xs : Array Operand) (ts : Array TypeId)
    (ho : o.op = .call { callee := .value (.func fid), args := xs, argTypes := ts }) (hen : ∀ args w, (callFunc fid args).run Tryd.prog w = .ok (.enter fid args) w) (args : Array Value) (ha : xs.map a.eval = args)
    (hc : Calls Tryd.prog fid args W R) (h : ∀ e w', R e w' → ∃ v, e = .returned v ∧ K (a.put o.dst v) w') :
    if Region.wanted o (yielded ops a.tmps) = true then Oper.wp Tryd.prog o a W K Q else E := by
  have hw : Region.wanted o (yielded ops a.tmps) = true := by simp [Region.wanted, hgd]
  rw [if_pos hw]
  have hcl : (execOp a.eval o).run Tryd.prog W = .ok (.enter fid args) W := by
    rw [Go.Conc.execOp_call_func ho, hen, ha]
  unfold Oper.wp
  rw [hcl]
  refine Calls.mono hc ?_
  intro e w' hr
  obtain ⟨v, rfl, hk⟩ := h e w' hr
  exact hk
end Go.Proofs.YtjckpammcgeloaaDoor
namespace Go.Proofs.YtjckpammcgeloaaDoor
open Go.RowKit

/-- append of a slice, nil or not, onto a row of the own. -/
theorem app_sl {ops : Array Oper} {rest : List Oper} {o : Oper} {a : Act} {Q : Exit → Act → World → Prop} (hgd : o.guard = none) (s x : Operand)
    (ho : o.op = .call { callee := .builtin .append, args := #[s, x], argTypes := #[22, 22] })
    {base : Nat} {w : World} {v : Value} {S : List Nat} (T : List Nat) (ad : Option Addr) (c : Nat) (hs : a.eval s = v) (hown : w.ownsRow base 3 1 v S.length (valsN S))
    (hx : a.eval x = .slice ad T.length c) (hT : NatsAt w ad T) (hN : ad = none → T.length = 0 ∧ c = 0) (hsp : T.length = 0 ∨ ∀ a, ad = some a → a.spot = none) (hl : S.length + T.length ≤ 4294967296) (hbase : base ≤ w.heap.size)
    (h : ∀ v' w', w'.ownsRow base 3 1 v' (S ++ T).length (valsN (S ++ T)) → Below base w w' → wpList Tryd.prog ops Q rest (a.put o.dst v') w') :
    wpList Tryd.prog ops Q (o :: rest) a w := by
  obtain ⟨i0, hi, hz0, hz1, hz2⟩ := info_parts info_int
  rcases ad with _ | ad
  · obtain ⟨h1, rfl⟩ := hN rfl
    have : T = [] := List.eq_nil_of_length_eq_zero h1
    subst this
    refine wpList_append_own_none hgd s x 22 ho base 3 i0 1 Tryd.underlying22 hi v S.length (valsN S) hs hown hx ?_
    exact h v w (by rw [List.append_nil]; exact hown) (Below.refl _ _)
  · refine app_nats hgd s x ho hs hown hx ?_ hl hbase fun v' w' h1 _ h3 => h v' w' h1 h3
    rcases hsp with h0 | h0
    · have : T = [] := List.eq_nil_of_length_eq_zero h0
      subst this
      intro j u hj; simp at hj
    · exact hT.news (h0 ad rfl)

def polN (sec ran : List Nat) (k i : Nat) : List Nat := [nthN sec i] ++ (ran.drop (i * k)).take k
def dealtT (p h : Nat) (sec ran : List Nat) (k m : Nat) : List ShN := (List.range h).map fun j => (j + 1, (List.range m).map fun i => evN p (polN sec ran k i) (j + 1))
theorem dealtT_len (p h : Nat) (sec ran : List Nat) (k m : Nat) : (dealtT p h sec ran k m).length = h := by simp [dealtT]
theorem dealtT_at {p h : Nat} {sec ran : List Nat} {k m j : Nat} (hj : j < h) : hN (dealtT p h sec ran k m) j = j + 1 ∧ vN (dealtT p h sec ran k m) j = (List.range m).map fun i => evN p (polN sec ran k i) (j + 1) := by
  simp [dealtT, hN, vN, List.getD_eq_getElem?_getD, hj]
theorem dealtT_zero (p h : Nat) (sec ran : List Nat) (k : Nat) : dealtT p h sec ran k 0 = emptyT h := by simp [dealtT, emptyT]
theorem dealtT_succ (p h : Nat) (sec ran : List Nat) (k m : Nat) : stepT p (polN sec ran k m) (dealtT p h sec ran k m) (dealtT p h sec ran k m).length = dealtT p h sec ran k (m + 1) := by
  refine shl_ext (by rw [stepT_len, dealtT_len, dealtT_len]) fun j hj => ?_
  rw [stepT_len, dealtT_len] at hj
  obtain ⟨e1, e2⟩ := stepT_at (p := p) (f := polN sec ran k m) (T := dealtT p h sec ran k m) (k := (dealtT p h sec ran k m).length) (j := j) (by rw [dealtT_len]; exact hj)
  rw [if_pos (by rw [dealtT_len]; exact hj)] at e2
  obtain ⟨e3, e4⟩ := dealtT_at (p := p) (sec := sec) (ran := ran) (k := k) (m := m) hj
  obtain ⟨e5, e6⟩ := dealtT_at (p := p) (sec := sec) (ran := ran) (k := k) (m := m + 1) hj
  rw [e1, e2, e3, e4, e5, e6, List.range_succ, List.map_append]
  exact ⟨rfl, rfl⟩
theorem polN_len {sec ran : List Nat} {k i : Nat} : (polN sec ran k i).length ≤ k + 1 := by
  unfold polN; rw [List.length_append, List.length_take]; simp; omega
theorem polN_lt {p : Nat} (hp : 1 ≤ p) {sec ran : List Nat} (h1 : ∀ x ∈ sec, x < p) (h2 : ∀ x ∈ ran, x < p) (k i : Nat) : ∀ x ∈ polN sec ran k i, x < p := by
  unfold polN
  refine app_lt (fun x hx => ?_) (fun x hx => h2 x (List.mem_of_mem_drop (List.mem_of_mem_take hx)))
  simp at hx; subst hx; exact nthN_lt hp h1 i
/-- The shares of a secret. -/
def dealN (p n h : Nat) (sec ran : List Nat) : List ShN := dealtT p h sec ran (n - 1) sec.length
def dlE (p n h : Int) (sec ran : List Int) : Int := if plB p n h = true then (if 2048 < sec.length then 3 else if inside p sec = true ∧ inside p ran = true ∧ (ran.length : Int) = sec.length * (n - 1) then 0 else 2) else 1
def dlL (p n h : Int) (sec ran : List Int) : List ShN := if dlE p n h sec ran = 0 then dealN p.toNat n.toNat h.toNat (sec.map Int.toNat) (ran.map Int.toNat) else []
theorem dlL_no {p n h : Int} {sec ran : List Int} (H : dlE p n h sec ran ≠ 0) : dlL p n h sec ran = [] := by unfold dlL; rw [if_neg H]
theorem dlE_pl {p n h : Int} {sec ran : List Int} (H : plB p n h = false) : dlE p n h sec ran = 1 := by unfold dlE; rw [H]; rfl
theorem dlE_big {p n h : Int} {sec ran : List Int} (H : plB p n h = true) (H2 : 2048 < sec.length) : dlE p n h sec ran = 3 := by unfold dlE; rw [if_pos H, if_pos H2]
theorem dlE_bad {p n h : Int} {sec ran : List Int} (H : plB p n h = true) (H2 : ¬ 2048 < sec.length) (H3 : ¬ (inside p sec = true ∧ inside p ran = true ∧ (ran.length : Int) = sec.length * (n - 1))) : dlE p n h sec ran = 2 := by unfold dlE; rw [if_pos H, if_neg H2, if_neg H3]
theorem dlE_ok {p n h : Int} {sec ran : List Int} (H : plB p n h = true) (H2 : ¬ 2048 < sec.length) (H3 : inside p sec = true ∧ inside p ran = true ∧ (ran.length : Int) = sec.length * (n - 1)) : dlE p n h sec ran = 0 := by unfold dlE; rw [if_pos H, if_neg H2, if_pos H3]

theorem prod_bd {c n : Int} (h1 : 0 ≤ c) (h2 : c ≤ 1048576) (h3 : 1 ≤ n) (h4 : n ≤ 1048576) : 0 ≤ c * (n - 1) ∧ c * (n - 1) ≤ 1099511627776 := by
  constructor
  · exact Int.mul_nonneg h1 (by omega)
  · have := Int.mul_le_mul h2 (show n - 1 ≤ 1048576 by omega) (by omega) (by omega)
    omega
end Go.Proofs.YtjckpammcgeloaaDoor
namespace Go.Proofs.YtjckpammcgeloaaDoor
open Go.RowKit

theorem plan_nat {p n h : Int} (H : PlanP p n h) (hv : primeV p = validI p) : ∃ q n' h' : Nat, p = (q : Int) ∧ n = (n' : Int) ∧ h = (h' : Int) ∧ PrimeN q ∧ q ≤ 1073741824 ∧ 1 ≤ n' ∧ n' ≤ h' ∧ h' ≤ 16 ∧ h' < q := by
  obtain ⟨q, rfl, hq, hq2⟩ := plan_prime H hv
  obtain ⟨l1, l2, l3, l4, -⟩ := H
  exact ⟨q, n.toNat, h.toNat, rfl, by omega, by omega, hq, hq2, by omega, by omega, by omega, by omega⟩
theorem part_bd {i k m : Nat} (hi : i < m) : i * k + k ≤ m * k := by
  have := Nat.mul_le_mul_right k (show i + 1 ≤ m by omega)
  rw [Nat.add_mul, Nat.one_mul] at this; exact this
theorem NatsAt.dropAt {w : World} {b off : Nat} {L : List Nat} (h : NatsAt w (some ⟨b, off, none⟩) L) (i : Nat) : NatsAt w (some ⟨b, off + i, none⟩) (L.drop i) := fun k hk => by
  rw [List.length_drop] at hk
  obtain ⟨b', off', e, hb, hc⟩ := h (i + k) (by omega)
  injection e with e; injection e with e1 e2; subst e1; subst e2
  refine ⟨b, off + i, rfl, hb, ?_⟩
  rw [show off + i + k = off + (i + k) by omega, hc]
  simp [nthN, List.getD_eq_getElem?_getD]
theorem nats_take {w : World} {A : Option Addr} {L : List Nat} (h : NatsAt w A L) (k : Nat) : NatsAt w A (L.take k) := h.take k
/-- A part of the random numbers, as a slice. -/
theorem part_at {w : World} {B : Option Addr} {c lo k : Nat} {ran : List Nat} (h : NatsAt w B ran) (hok : IOK B c ran.length) (hlo : lo + k ≤ ran.length) :
    ∃ ad, sliced B lo (lo + k) c 1 = .slice ad ((ran.drop lo).take k).length (c - lo) ∧ NatsAt w ad ((ran.drop lo).take k) ∧ (ad = none → ((ran.drop lo).take k).length = 0 ∧ c - lo = 0) ∧ (((ran.drop lo).take k).length = 0 ∨ ∀ a, ad = some a → a.spot = none) := by
  have hlen : ((ran.drop lo).take k).length = k := by rw [List.length_take, List.length_drop]; omega
  rw [hlen]
  have hcl := hok.len
  rcases Nat.eq_zero_or_pos k with h0 | h0
  · subst h0
    unfold sliced
    refine ⟨if c = lo then B else B.map (·.add (lo * 1)), by simp, by rw [show (ran.drop lo).take 0 = [] from rfl]; exact NatsAt.nil _ _, fun e => ⟨rfl, ?_⟩, .inl rfl⟩
    by_cases hc : c = lo
    · omega
    · rw [if_neg hc] at e
      have : B = none := by cases B with
        | none => rfl
        | some a => cases e
      have := hok.nil this; omega
  · have hne : ¬ c = lo := by omega
    obtain ⟨b, off, rfl, hb, hc⟩ := h lo (by omega)
    unfold sliced
    rw [if_neg hne, Nat.mul_one]
    have hadd : (⟨b, off, none⟩ : Addr).add lo = ⟨b, off + lo, none⟩ := by
      unfold Addr.add; split
      · rename_i h; subst h; rfl
      · rfl
    refine ⟨some ⟨b, off + lo, none⟩, ?_, (h.dropAt lo).take k, (fun e => by cases e), .inr (fun a e => by injection e with e; subst e; rfl)⟩
    simp only [Option.map_some, hadd]
    rw [show lo + k - lo = k by omega]
end Go.Proofs.YtjckpammcgeloaaDoor
namespace Go.Proofs.YtjckpammcgeloaaDoor
open Go.RowKit

abbrev valsI (L : List Int) : List Value := L.map (Value.int .i64)
theorem valsI_one (L : List Int) : ∀ u ∈ valsI L, u.oneCell' = true := by
  intro u hu
  obtain ⟨x, -, rfl⟩ := List.mem_map.1 hu; rfl
theorem IntsAt.news {w : World} {a : Addr} {L : List Int} (h : IntsAt w (some a) L) (hs : L.length = 0 ∨ a.spot = none) : ∀ j u, (valsI L)[j]? = some u → w.cell? (a.add j) = some u := fun j u hu => by
  have hj : j < L.length := by
    rcases Nat.lt_or_ge j L.length with h1 | h1
    · exact h1
    · rw [List.getElem?_eq_none (by simp [valsI]; omega)] at hu; cases hu
  obtain ⟨b, off, hA, hb, hc⟩ := h j hj
  injection hA with hA
  subst hA
  have e : (⟨b, off, none⟩ : Addr).add j = ⟨b, off + j, none⟩ := by
    unfold Addr.add; split
    · rename_i h; subst h; rfl
    · rfl
  rw [e, hc, ← hu]
  simp [valsI, hj, nth_eq hj]
theorem own_ints {w : World} {base : Nat} {v : Value} {L : List Int} {n : Nat} (h : w.ownsRow base 3 1 v n (valsI L)) (hn : n = L.length) :
    ∃ A c, v = .slice A L.length c ∧ IntsAt w A L ∧ IOK A c L.length ∧ ∀ b off, A = some ⟨b, off, none⟩ → base ≤ b ∧ b < w.heap.size := by
  subst hn
  have hlt := World.ownsRow.lt h
  rcases h.2 with ⟨rfl, h0⟩ | ⟨g, cap, cur, rfl, hg, hh, hnc, hcm, hcs, htk⟩
  · have : L = [] := List.eq_nil_of_length_eq_zero h0
    subst this
    exact ⟨none, 0, rfl, IntsAt.nil _ _, IOK.none0, fun b off e => by cases e⟩
  · refine ⟨some ⟨g, 0, none⟩, cap, rfl, fun k hk => ⟨g, 0, rfl, (hlt g rfl).2, ?_⟩, ⟨hnc, hcm, (fun e => by cases e), .inr (fun a e => by injection e with e; subst e; rfl)⟩, fun b off e => by injection e with e; injection e with e1; subst e1; exact hlt g rfl⟩
    have := World.ownsRow.cellAt h (j := k) (by omega)
    rw [Nat.zero_add, this, List.getElem?_map, nth_eq hk, List.getElem?_eq_getElem hk]
    rfl
/-- append of a slice of numbers onto nil, in a region that draws. -/
theorem step_app_ints {ops : Array Oper} {o : Oper} {a : Act} {K : Act → World → Prop} {Q : Exit → Act → World → Prop} {E : Prop} (W : World) (hgd : o.guard = none) (s x : Operand)
    (ho : o.op = .call { callee := .builtin .append, args := #[s, x], argTypes := #[22, 22] })
    (L : List Int) (B : Option Addr) (c : Nat) (hs : a.eval s = .slice none 0 0) (hx : a.eval x = .slice B L.length c) (hI : IntsAt W B L) (hok : IOK B c L.length) (hl : L.length ≤ 4294967296)
    (h : ∀ A' c' w', w'.ownsRow W.heap.size 3 1 (.slice A' L.length c') L.length (valsI L) → Below W.heap.size W w' → K (a.put o.dst (.slice A' L.length c')) w') :
    if Region.wanted o (yielded ops a.tmps) = true then Oper.wp Tryd.prog o a W K Q else E := by
  have hw : Region.wanted o (yielded ops a.tmps) = true := by simp [Region.wanted, hgd]
  rw [if_pos hw]
  obtain ⟨i0, hi, hz0, hz1, hz2⟩ := info_parts info_int
  rcases B with _ | ad
  · have hc0 := hok.nil rfl
    subst hc0
    have hL0 : L.length = 0 := by have := hok.len; omega
    have hL : L = [] := List.eq_nil_of_length_eq_zero hL0
    subst hL
    have hrun := run_append_owned_none (P := Tryd.prog) (w := W) W.heap.size 22 o.type 3 i0 1 Tryd.underlying22 hi (.slice none 0 0) 0 [] (World.ownsRow_nil _ _ _ _)
    unfold Oper.wp
    simp [execOp, ho, resolve, invoke, builtin, hs, hx, hrun, Result.andThen]
    exact h none 0 W (World.ownsRow_nil _ _ _ _) (Below.refl _ _)
  · have hsp : L.length = 0 ∨ ad.spot = none := hok.spot.elim .inl (fun g => .inr (g ad rfl))
    obtain ⟨v', w', hr, h2, h3, h4, h5⟩ := run_append_own_at (P := Tryd.prog) W W.heap.size 22 o.type 3 i0 _ 1 8 Tryd.underlying22 hi hz0 hz1 hz2 rfl (by omega) (.slice none 0 0) 0 [] (World.ownsRow_nil _ _ _ _) ad L.length c (valsI L) (by simp [valsI]) (hI.news hsp) (valsI_one L) (by unfold maxLen; omega) (by omega) (Nat.le_refl _)
    rw [Nat.zero_add, List.nil_append] at h2
    have hB : Below W.heap.size W w' := ⟨h3.os, h3.tape, h3.output, h3.size, fun k hk => h3.block k hk (by simp [Value.ownBlock])⟩
    obtain ⟨A', c', rfl, -⟩ := own_ints h2 rfl
    unfold Oper.wp execOp
    simp only [ho, resolve, invoke, builtin, Sem.run_bind, Sem.run_pure, Result.andThen_ok, List.map_toArray, List.map_cons, List.map_nil, hs, hx, hr]
    exact h A' c' w' h2 hB

/-! ### Rows of shares of the own, of any numbers -/
structure RowsI (w : World) (base : Nat) (v : Value) (H : List HV) (S : List Shr) : Prop where
  out : HvOwn w base v H
  len : H.length = S.length
  hold : ∀ k, k < S.length → (hvAt H k).1 = hS S k
  row : ∀ k, k < S.length → w.ownsRow base 3 1 (hvAt H k).2 (vS S k).length (valsI (vS S k))
  ne : ∀ i j, i < S.length → j < S.length → i ≠ j → ∀ b, (hvAt H i).2.ownBlock = some b → (hvAt H j).2.ownBlock = some b → False
  no : ∀ i, i < S.length → ∀ b, (hvAt H i).2.ownBlock = some b → v.ownBlock = some b → False
theorem RowsI.below {w w' : World} {base : Nat} {v : Value} {H : List HV} {S : List Shr} (h : RowsI w base v H S) (hb : Below w.heap.size w w') : RowsI w' base v H S :=
  ⟨h.out.below hb, h.len, h.hold, fun k hk => own_below (h.row k hk) hb, h.ne, h.no⟩
theorem RowsI.read {w : World} {base : Nat} {v : Value} {H : List HV} {S : List Shr} (h : RowsI w base v H S) : ∃ A c, v = .slice A S.length c ∧ ShP (fun b => base ≤ b) w A c S := by
  rcases Nat.eq_zero_or_pos S.length with h0 | h0
  · have : S = [] := List.eq_nil_of_length_eq_zero h0
    subst this
    have hH : H = [] := List.eq_nil_of_length_eq_zero h.len
    have ho := h.out
    subst hH
    rcases ho.2 with ⟨rfl, -⟩ | ⟨g, cap, cur, rfl, hg, hh, hnc, hcm, hcs, htk⟩
    · exact ⟨none, 0, rfl, ShP.nil _ _⟩
    · exact ⟨_, cap, rfl, fun k hk => absurd hk (by simp), ⟨Nat.zero_le _, hcm, (fun e => by cases e), .inl rfl⟩⟩
  · obtain ⟨g, c, rfl, hg, hbg, hlc, hcm, hcell, -⟩ := h.out.form (by rw [h.len]; exact h0)
    refine ⟨some ⟨g, 0, none⟩, c, by rw [h.len], fun k hk => ?_, ⟨by rw [← h.len]; exact hlc, hcm, (fun e => by cases e), .inr (fun a e => by injection e with e; subst e; rfl)⟩⟩
    obtain ⟨c1, c2⟩ := hcell k (by rw [h.len]; exact hk)
    obtain ⟨B, c', hv, hN, hS', hb⟩ := own_ints (h.row k hk) rfl
    refine ⟨g, 0, B, c', rfl, hg, hbg, ?_, ?_, ?_⟩
    · rw [Nat.zero_add, c1, h.hold k hk]
    · rw [Nat.zero_add, c2, hv]
    · exact ⟨hN, hS', fun b off e => .inr (hb b off e).1⟩
theorem hS_append {S K : List Shr} {k : Nat} (h : k < S.length) : hS (S ++ K) k = hS S k ∧ vS (S ++ K) k = vS S k := by simp [hS, vS, List.getD_eq_getElem?_getD, List.getElem?_append_left h]
theorem hS_last {S : List Shr} {y : Shr} : hS (S ++ [y]) S.length = y.1 ∧ vS (S ++ [y]) S.length = y.2 := by simp [hS, vS, List.getD_eq_getElem?_getD]
/-- One share more, its values a row made for it. -/
theorem RowsI.more {w w1 w' : World} {base : Nat} {v v' u : Value} {H : List HV} {S : List Shr} (h : RowsI w base v H S) (hb1 : Below w.heap.size w w1) (x : Int) (L : List Int) (hu : w1.ownsRow w.heap.size 3 1 u L.length (valsI L)) (hbs : base ≤ w.heap.size)
    (hown : HvOwn w' base v' (H ++ [(x, u)])) (hg : w1.grownBy w' v.ownBlock) (hv : v'.ownBlock = v.ownBlock ∨ ∀ b, v'.ownBlock = some b → w1.heap.size ≤ b) : RowsI w' base v' (H ++ [(x, u)]) (S ++ [(x, L)]) := by
  have hl := h.len
  have h1 := h.below hb1
  have hcase : ∀ k, k < (S ++ [(x, L)]).length → k < S.length ∨ k = S.length := fun k hk => by simp at hk; omega
  have hub : ∀ b, u.ownBlock = some b → w.heap.size ≤ b ∧ b < w1.heap.size := fun b e => World.ownsRow.lt hu b e
  refine ⟨hown, by simp [hl], fun k hk => ?_, fun k hk => ?_, fun i j hi hj hij b e1 e2 => ?_, fun i hi b e1 e2 => ?_⟩
  · rcases hcase k hk with hk | rfl
    · rw [hvAt_append (by omega), (hS_append hk).1]; exact h.hold k hk
    · rw [← hl, hvAt_last, hl, hS_last.1]
  · rcases hcase k hk with hk | rfl
    · rw [hvAt_append (by omega), (hS_append hk).2]
      refine World.ownsRow.kept (h1.row k hk) hg ?_
      rcases he : (hvAt H k).2.ownBlock with _ | b
      · exact .inl rfl
      · exact .inr (fun e => h.no k hk b he e.symm)
    · rw [← hl, hvAt_last, hl, hS_last.2]
      refine ownsRow_mono (World.ownsRow.kept hu hg ?_) hbs
      rcases he : u.ownBlock with _ | b
      · exact .inl rfl
      · exact .inr (fun e => by have := (World.ownsRow.lt h.out b e.symm).2; have := hub b he; omega)
  · rcases hcase i hi with hi | rfl
    · rcases hcase j hj with hj | rfl
      · rw [hvAt_append (by omega)] at e1 e2; exact h.ne i j hi hj hij b e1 e2
      · rw [hvAt_append (by omega)] at e1
        rw [← hl, hvAt_last] at e2
        have := (World.ownsRow.lt (h.row i hi) b e1).2; have := hub b e2; omega
    · rcases hcase j hj with hj | rfl
      · rw [hvAt_append (by omega)] at e2
        rw [← hl, hvAt_last] at e1
        have := (World.ownsRow.lt (h.row j hj) b e2).2; have := hub b e1; omega
      · exact hij rfl
  · rcases hcase i hi with hi | rfl
    · rw [hvAt_append (by omega)] at e1
      rcases hv with e | e
      · exact h.no i hi b e1 (e ▸ e2)
      · have := (World.ownsRow.lt (h1.row i hi) b e1).2
        have := e b e2; omega
    · rw [← hl, hvAt_last] at e1
      have h3 := hub b e1
      rcases hv with e | e
      · have := (World.ownsRow.lt h.out b (e ▸ e2)).2; omega
      · have := e b e2; omega
/-- append of one share onto a row of the own, in a region that draws. -/
theorem step_app_hv {ops : Array Oper} {o : Oper} {a : Act} {K : Act → World → Prop} {Q : Exit → Act → World → Prop} {E : Prop} (W : World) (hgd : o.guard = none) (s x : Operand)
    (ho : o.op = .call { callee := .builtin .append, args := #[s, x], argTypes := #[33, 33] })
    (w5 : World) (base : Nat) (v : Value) (H : List HV) (y : Int) (u : Value) (hs : a.eval s = v) (hx : a.eval x = .slice (some ⟨w5.heap.size, 0, none⟩) 1 1)
    (hW : W.heap = (w5.alloc (.cells #[.int .i64 y, u] 35)).heap ∧ W.os = w5.os ∧ W.tape = w5.tape ∧ W.output = w5.output) (hu : isSl u = true)
    (hown : HvOwn w5 base v H) (hl : H.length ≤ 1048576) (hbase : base ≤ w5.heap.size)
    (h : ∀ g cap w', HvOwn w' base (.slice (some ⟨g, 0, none⟩) (H.length + 1) cap) (H ++ [(y, u)]) → w5.grownBy w' v.ownBlock → (v.ownBlock = some g ∨ w5.heap.size ≤ g) → Below base w5 w' → K (a.put o.dst (.slice (some ⟨g, 0, none⟩) (H.length + 1) cap)) w') :
    if Region.wanted o (yielded ops a.tmps) = true then Oper.wp Tryd.prog o a W K Q else E := by
  obtain ⟨i0, hi, hz0, hz1, hz2⟩ := info_parts info_share
  have hbW : Below w5.heap.size w5 W := ⟨hW.2.1, hW.2.2.1, hW.2.2.2, by rw [hW.1]; simp, fun k hk => by rw [hW.1]; exact heap_alloc_old w5 _ hk⟩
  have hsz : W.heap.size = w5.heap.size + 1 := by rw [hW.1]; simp
  have hg : W.heap[w5.heap.size]? = some (.cells #[.int .i64 y, u] 35 (0, 0)) := by rw [hW.1]; exact heap_alloc_new w5 _
  refine step_append_lies _ hgd s x 33 ho base 35 i0 _ 2 32 Tryd.underlying33 hi hz0 hz1 hz2 rfl (by omega) v H.length (flatH H) hs (hown.below hbW) ⟨w5.heap.size, 0, none⟩ 1 1 (flatH [(y, u)]) hx (flatH_len [(y, u)]) (fun j z hz => ?_) (flatH_one [(y, u)] (fun k hk => ?_)) (by omega) (by unfold maxLen; omega) (by omega) (by omega) _ rfl ?_
  · have hj : j < 2 := by
      rcases Nat.lt_or_ge j 2 with h1 | h1
      · exact h1
      · rw [List.getElem?_eq_none (by rw [flatH_len]; simp; omega)] at hz; cases hz
    have : j = 0 ∨ j = 1 := by omega
    rcases this with rfl | rfl
    · rw [show (⟨w5.heap.size, 0, none⟩ : Addr).add 0 = ⟨w5.heap.size, 0, none⟩ from rfl, cell_of_row W w5.heap.size 0 _ _ (0, 0) hg, ← hz]; rfl
    · rw [show (⟨w5.heap.size, 0, none⟩ : Addr).add 1 = ⟨w5.heap.size, 1, none⟩ from rfl, cell_of_row W w5.heap.size 1 _ _ (0, 0) hg, ← hz]; rfl
  · have : k = 0 := by simp at hk; omega
    subst this; exact hu
  · intro g cap w' ho' hgr hat _
    have hg5 : w5.grownBy w' v.ownBlock := ⟨hgr.os.trans hbW.os, hgr.tape.trans hbW.tape, hgr.output.trans hbW.output, Nat.le_trans hbW.size hgr.size, fun k hk hne => (hgr.block k (by omega) hne).trans (hbW.block k hk)⟩
    refine h g cap w' ?_ hg5 (hat.elim .inl (fun e => .inr (by omega))) ((Below.refl _ _).grown hg5 hbase (fun k hk => (World.ownsRow.lt hown k hk).1))
    unfold HvOwn; rw [List.length_append, flatH_append]; exact ho'
theorem hSv_take {S : List Shr} {k : Nat} (h : k < S.length) : S.take (k + 1) = S.take k ++ [(hS S k, vS S k)] := by
  rw [List.take_succ_eq_append_getElem h]
  congr 1
  simp [hS, vS, List.getD_eq_getElem?_getD, h]
/-- The call returns a copy: rows of the own. -/
def CopyP (S : List Shr) (w : World) (e : Ending) (w' : World) : Prop := ∃ v H, e = .returned v ∧ RowsI w' w.heap.size v H S ∧ Below w.heap.size w w'

set_option maxRecDepth 100000 in
set_option maxHeartbeats 4000000 in
theorem copy_any {P : Nat → Prop} (A : Option Addr) (c : Nat) (S : List Shr) (w : World) (hS : ShP P w A c S) (hsh : Short S) (hl : S.length ≤ 1000000) :
    Calls Tryd.prog 48 #[.slice A S.length c] w (CopyP S w) := by
  have HS := Lib.hid hS
  have HSH := Lib.hid hsh
  clear hS hsh
  go_enter Tryd.func48, Tryd.ntmps48
  go_wp2_with fail
  go_loopw [3, 8] (fun o i wr => ∃ (k : Nat) (H : List HV), k ≤ S.length ∧ i = .int .i64 k ∧ RowsI wr w.heap.size o H (S.take k) ∧ Below w.heap.size w wr) (fun _ i _ => S.length - (intOf i).toNat)
  case atStart => exact ⟨0, [], Nat.zero_le _, rfl, ⟨HvOwn.nil _ _, rfl, fun k hk => absurd hk (by simp), fun k hk => absurd hk (by simp), fun i j hi => absurd hi (by simp), fun i hi => absurd hi (by simp)⟩, Below.refl _ _⟩
  case round =>
    obtain ⟨k, H, hk, rfl, hR, hbr⟩ := hrel
    have hlk : (S.take k).length = k := by rw [List.length_take]; omega
    obtain ⟨OA, oc, hv, -⟩ := hR.read
    rw [hlk] at hv
    subst hv
    have HLK := Lib.hid hlk
    clear hlk
    have hsz := hbr.size
    have hHl : H.length ≤ 1000000 := by rw [hR.len, List.length_take]; omega
    have HR := Lib.hid hR
    by_cases hlt : k < S.length
    · obtain ⟨b, off, B, c1, rfl, hb, -, h1, h2, h3⟩ := (HS.out.below hbr).at_ k hlt
      have HI := Lib.hid h3
      have hvl := HSH.out k hlt
      have HTK := Lib.hid (hSv_take hlt)
      have hlt' : k = H.length := HLK.out.symm.trans HR.out.len.symm
      generalize hS S k = x at *
      generalize vS S k = L at *
      have HTL := Lib.hid hlt'
      clear h3 hR hlt'
      go_wp2_with fail
      refine gen_world fun w1 hw1 => ?_
      have hb1 : Below wr.heap.size wr w1 := by rw [hw1]; exact below_alloc _ _
      have hsc : ShCell w1 wr.heap.size x (.slice B L.length c1) := by rw [hw1]; exact ShCell.new _ _ rfl
      have s0 := hsc.c0
      have s1 := hsc.c1
      have ls := blk_lt hsc
      have hz1 := hb1.size
      have HI1 := Lib.hid (HI.out.keep (Kept.below hb1))
      clear hw1 hsc h1 h2
      go_region_held3 (fun w' => w'.cell? ⟨wr.heap.size, 0, none⟩ = some (.int .i64 x) ∧ w'.cell? ⟨wr.heap.size, 1, none⟩ = some (.slice B L.length c1)) (first | go_keep | exact ⟨n60, n61⟩)
        (first
          | (refine step_app_ints _ rfl (.const (.slice none 0 0)) (.tmp 16) rfl L B c1 rfl rfl (by exact HI1.out.ints) HI1.out.ok (by omega) ?_; intro VA vc w4 hown4 hb4; have hb4' : Below w1.heap.size w1 w4 := (below_undrew1 hb4); have n40 := (hb4'.cell (p := ⟨wr.heap.size, 0, none⟩) ls).trans s0; have n41 := (hb4'.cell (p := ⟨wr.heap.size, 1, none⟩) ls).trans s1; have l4 : wr.heap.size < w4.heap.size := (Nat.lt_of_lt_of_le ls hb4'.size))
          | (refine step_app_hv _ rfl (.tmp 12) (.tmp 19) rfl w4 w.heap.size (.slice OA k oc) H x (.slice VA L.length vc) rfl rfl ⟨rfl, rfl, rfl, rfl⟩ rfl (HR.out.out.below (below_trans hb1 hb4')) (by omega) (by omega) ?_; intro g6 c6 w6 hown6 hg6 hat6 hb6; have n60 : w6.cell? ⟨wr.heap.size, 0, none⟩ = some (.int .i64 x) := (World.cell?_of_block (w := w4) (hg6.block wr.heap.size l4 (fun e => by have := (World.ownsRow.lt HR.out.out _ e.symm).2; omega))).trans n40; have n61 : w6.cell? ⟨wr.heap.size, 1, none⟩ = some (.slice B L.length c1) := (World.cell?_of_block (w := w4) (hg6.block wr.heap.size l4 (fun e => by have := (World.ownsRow.lt HR.out.out _ e.symm).2; omega))).trans n41))
      all_goals
        have HM := Lib.hid (HR.out.more (below_trans hb1 hb4') x L (ownsRow_mono hown4 (by simp [drew_size]; exact hz1)) hsz hown6 hg6 (hat6.elim (fun e => .inl e.symm) (fun e => .inr (fun b e2 => by have : g6 = b := Option.some.inj (show some g6 = some b from e2); omega))))
        have HB := Lib.hid (hbr.trans (((below_trans hb1 hb4').mono hsz).trans hb6))
        clear hown4 hown6 hg6 hat6
        go_wp2_with fail
        go_roundw
        case rel => exact ⟨k + 1, _, by omega, by go_num, by rw [HTK.out]; exact HM.out, HB.out⟩
        case measure => simp [intOf]; omega
    · obtain rfl : k = S.length := by omega
      rw [List.take_length] at HR
      clear hR
      go_wp2_with fail
      go_ret
      exact ⟨_, _, rfl, HR.out, hbr⟩
end Go.Proofs.YtjckpammcgeloaaDoor
namespace Go.Proofs.YtjckpammcgeloaaDoor
open Go.RowKit

attribute [local go_sem high] sliced_low
/-! ### A plan that dice give -/
theorem results_plan {fn : Func} {t : Tmp} (h : fn.results = #[.cell t 29]) (tmps : Array Value) (w : World) (g : Nat) (hp : tmps.getD t undef = .pointer (some ⟨g, 0, none⟩)) {p n h' : Int} (hX : PlanCell w g p n h') :
    (results fn tmps).run Tryd.prog w = .ok (planV p n h') w :=
  results_cell_row h tmps w g 29 _ (0, 0) _ hp hX Tryd.underlying29 rfl (by kernel_rfl)
theorem PlanCell.frozen {w : World} {x : Nat} {p n h : Int} (H : PlanCell w x p n h) (j : Nat) : w.frozen? ⟨x, j, none⟩ = false := by unfold PlanCell at H; simp [World.frozen?, H]
theorem PlanCell.fill {w : World} {x : Nat} {p n h : Int} (H : PlanCell w x p n h) (p' n' h' : Int) : PlanCell (((w.setCell ⟨x, 0, none⟩ (.int .i64 p')).setCell ⟨x, 1, none⟩ (.int .i64 n')).setCell ⟨x, 2, none⟩ (.int .i64 h')) x p' n' h' := by
  unfold PlanCell at H ⊢; simp [World.setCell, Array.getElem?_modify, H]
theorem grown_set {w w' : World} {D : Nat} (h : w.grownBy w' (some D)) (q : Addr) (v : Value) (hq : w.heap.size ≤ q.block) : w.grownBy (w'.setCell q v) (some D) :=
  ⟨h.os, h.tape, h.output, by simpa [World.setCell] using h.size, fun k hk hne => (Below.heap_setCell w' q v k (by omega)).trans (h.block k hk hne)⟩
structure PlanD (p n h : Nat) : Prop where
  n1 : 1 ≤ n
  nh : n ≤ h
  h7 : h ≤ 7
  hp : h < p
def PlanR (D p : Nat) (w : World) (e : Ending) (w' : World) : Prop := ∃ (n h : Nat) (R' : List Int), e = .returned (planV p n h) ∧ PlanD p n h ∧ DiceAt w' D R' ∧ w.grownBy w' (some D)
/-! ### Another order -/
theorem HvOwn.setHV {w : World} {base g c : Nat} {H : List HV} (h : HvOwn w base (.slice (some ⟨g, 0, none⟩) H.length c) H) (i : Nat) (hi : i < H.length) (x : HV) :
    HvOwn ((w.setCell ⟨g, i * 2, none⟩ (.int .i64 x.1)).setCell ⟨g, i * 2 + 1, none⟩ x.2) base (.slice (some ⟨g, 0, none⟩) H.length c) (H.set i x) := by
  have h1 := h.set0 i hi x.1
  have h1' : HvOwn (w.setCell ⟨g, i * 2, none⟩ (.int .i64 x.1)) base (.slice (some ⟨g, 0, none⟩) (H.set i (x.1, (hvAt H i).2)).length c) (H.set i (x.1, (hvAt H i).2)) := by rw [List.length_set]; exact h1
  have h2 := h1'.set1 i (by simpa using hi) x.2
  rw [hvAt_set_same _ _ _ hi, List.set_set, List.length_set] at h2
  exact h2
def swapH (H : List HV) (i k : Nat) : List HV := (H.set i (hvAt H k)).set k (hvAt H i)
def swapS (S : List Shr) (i k : Nat) : List Shr := (S.set i (hS S k, vS S k)).set k (hS S i, vS S i)
theorem swapH_len (H : List HV) (i k : Nat) : (swapH H i k).length = H.length := by simp [swapH]
theorem swapS_len (S : List Shr) (i k : Nat) : (swapS S i k).length = S.length := by simp [swapS]
theorem shr_at {S : List Shr} {k : Nat} (h : k < S.length) : S[k] = (hS S k, vS S k) := by simp [hS, vS, List.getD_eq_getElem?_getD, h]
theorem swapS_perm {S : List Shr} {i k : Nat} (hi : i < S.length) (hk : k < S.length) : (swapS S i k).Perm S := by
  unfold swapS
  rw [← shr_at hk, ← shr_at hi]
  exact List.set_set_perm hi hk
def swi (i k j : Nat) : Nat := if j = k then i else if j = i then k else j
theorem swapH_at {H : List HV} {i k j : Nat} (hi : i < H.length) (hk : k < H.length) : hvAt (swapH H i k) j = hvAt H (swi i k j) := by
  unfold swapH swi
  by_cases h1 : j = k
  · subst h1; rw [if_pos rfl, hvAt_set_same _ _ _ (by simpa using hk)]
  · rw [if_neg h1, hvAt_set_other _ _ _ _ (Ne.symm h1)]
    by_cases h2 : j = i
    · subst h2; rw [if_pos rfl, hvAt_set_same _ _ _ hi]
    · rw [if_neg h2, hvAt_set_other _ _ _ _ (Ne.symm h2)]
theorem swapS_at {S : List Shr} {i k j : Nat} (hi : i < S.length) (hk : k < S.length) : hS (swapS S i k) j = hS S (swi i k j) ∧ vS (swapS S i k) j = vS S (swi i k j) := by
  unfold swapS swi
  by_cases h1 : j = k
  · subst h1; rw [if_pos rfl]; simp [hS, vS, List.getD_eq_getElem?_getD, hk]
  · rw [if_neg h1]
    by_cases h2 : j = i
    · subst h2
      rw [if_pos rfl]
      have e1 : ((S.set j (hS S k, vS S k)).set k (hS S j, vS S j))[j]? = some (hS S k, vS S k) := by rw [List.getElem?_set_ne (Ne.symm h1)]; simp [hi]
      constructor
      · show (((S.set j (hS S k, vS S k)).set k (hS S j, vS S j)).getD j (0, [])).1 = _
        rw [List.getD_eq_getElem?_getD, e1]; rfl
      · show (((S.set j (hS S k, vS S k)).set k (hS S j, vS S j)).getD j (0, [])).2 = _
        rw [List.getD_eq_getElem?_getD, e1]; rfl
    · rw [if_neg h2]; simp [hS, vS, List.getD_eq_getElem?_getD, List.getElem?_set_ne (Ne.symm h1), List.getElem?_set_ne (Ne.symm h2)]
theorem swi_lt {i k j n : Nat} (hi : i < n) (hk : k < n) (hj : j < n) : swi i k j < n := by unfold swi; split <;> (try split) <;> assumption
theorem swi_inj {i k a b : Nat} (h : swi i k a = swi i k b) : a = b := by unfold swi at h; split at h <;> split at h <;> (try split at h) <;> (try split at h) <;> omega
/-- Two shares have changed places. -/
theorem RowsI.swap {w : World} {base g c : Nat} {H : List HV} {S : List Shr} (h : RowsI w base (.slice (some ⟨g, 0, none⟩) H.length c) H S) {i k : Nat} (hi : i < S.length) (hk : k < S.length) :
    RowsI ((((w.setCell ⟨g, i * 2, none⟩ (.int .i64 (hvAt H k).1)).setCell ⟨g, i * 2 + 1, none⟩ (hvAt H k).2).setCell ⟨g, k * 2, none⟩ (.int .i64 (hvAt H i).1)).setCell ⟨g, k * 2 + 1, none⟩ (hvAt H i).2) base (.slice (some ⟨g, 0, none⟩) H.length c) (swapH H i k) (swapS S i k) := by
  have hl := h.len
  have h1 := h.out.setHV i (by omega) (hvAt H k)
  have h1' : HvOwn ((w.setCell ⟨g, i * 2, none⟩ (.int .i64 (hvAt H k).1)).setCell ⟨g, i * 2 + 1, none⟩ (hvAt H k).2) base (.slice (some ⟨g, 0, none⟩) (H.set i (hvAt H k)).length c) (H.set i (hvAt H k)) := by rw [List.length_set]; exact h1
  have h2 := h1'.setHV k (by rw [List.length_set]; omega) (hvAt H i)
  rw [List.length_set] at h2
  have hHi : i < H.length := by omega
  have hHk : k < H.length := by omega
  refine ⟨h2, by rw [swapH_len, swapS_len, hl], fun j hj => ?_, fun j hj => ?_, fun a b ha hb hab x e1 e2 => ?_, fun a ha x e1 e2 => ?_⟩
  · rw [swapS_len] at hj
    rw [swapH_at hHi hHk, (swapS_at hi hk).1]; exact h.hold _ (swi_lt hi hk hj)
  · rw [swapS_len] at hj
    have hne : ∀ b, (hvAt H (swi i k j)).2.ownBlock = some b → b ≠ g := fun b e e2 => h.no _ (swi_lt hi hk hj) b e (by rw [e2]; rfl)
    rw [swapH_at hHi hHk, (swapS_at hi hk).2]
    exact own_other (own_other (own_other (own_other (h.row _ (swi_lt hi hk hj)) _ _ hne) _ _ hne) _ _ hne) _ _ hne
  · rw [swapS_len] at ha hb
    rw [swapH_at hHi hHk] at e1 e2
    exact h.ne _ _ (swi_lt hi hk ha) (swi_lt hi hk hb) (fun e => hab (swi_inj e)) x e1 e2
  · rw [swapS_len] at ha
    rw [swapH_at hHi hHk] at e1
    exact h.no _ (swi_lt hi hk ha) x e1 e2
def TurnP (D : Nat) (S : List Shr) (least : Nat) (w : World) (e : Ending) (w' : World) : Prop :=
  ∃ (A : Option Addr) (c m : Nat) (Q : List Shr) (R' : List Int), e = .returned (.slice A m c) ∧ Q.Perm S ∧ m ≤ S.length ∧ (least ≤ m ∨ m = S.length) ∧ ShP (· ≠ D) w' A c (Q.take m) ∧ DiceAt w' D R' ∧ w.grownBy w' (some D)
theorem RowsI.drew {w : World} {base : Nat} {v : Value} {H : List HV} {S : List Shr} (h : RowsI w base v H S) : RowsI w.drew base v H S := ⟨h.out, h.len, h.hold, h.row, h.ne, h.no⟩
theorem grown_drew {w w' : World} {r : Option Nat} (h : w.grownBy w' r) : w.grownBy w'.drew r := ⟨h.os, h.tape, h.output, h.size, h.block⟩
theorem grown4 {w w' : World} {D g a b c d : Nat} {v1 v2 v3 v4 : Value} (h : w.grownBy w' (some D)) (hg : w.heap.size ≤ g) : w.grownBy ((((w'.setCell ⟨g, a, none⟩ v1).setCell ⟨g, b, none⟩ v2).setCell ⟨g, c, none⟩ v3).setCell ⟨g, d, none⟩ v4).drew (some D) :=
  grown_drew (grown_set (grown_set (grown_set (grown_set h ⟨g, a, none⟩ v1 hg) ⟨g, b, none⟩ v2 hg) ⟨g, c, none⟩ v3 hg) ⟨g, d, none⟩ v4 hg)
theorem dice4 {w : World} {D g a b c d : Nat} {R : List Int} {v1 v2 v3 v4 : Value} (h : DiceAt w D R) (hg : D < g) : DiceAt ((((w.setCell ⟨g, a, none⟩ v1).setCell ⟨g, b, none⟩ v2).setCell ⟨g, c, none⟩ v3).setCell ⟨g, d, none⟩ v4).drew D R :=
  DiceAt.drewN ((((h.setCell ⟨g, a, none⟩ v1 hg).setCell ⟨g, b, none⟩ v2 hg).setCell ⟨g, c, none⟩ v3 hg).setCell ⟨g, d, none⟩ v4 hg) 1
theorem RowsI.grown {w w' : World} {base D : Nat} {v : Value} {H : List HV} {S : List Shr} (h : RowsI w base v H S) (hg : w.grownBy w' (some D)) (hD : D < base) : RowsI w' base v H S := by
  have hk : ∀ {e : TypeId} {size : Nat} {u : Value} {n : Nat} {xs : List Value}, w.ownsRow base e size u n xs → w'.ownsRow base e size u n xs := fun {e size u n xs} ho => World.ownsRow.kept ho hg (by
    rcases he : u.ownBlock with _ | b
    · exact .inl rfl
    · exact .inr (fun e2 => by have := (World.ownsRow.lt ho b he).1; injection e2 with e2; omega))
  exact ⟨hk h.out, h.len, h.hold, fun k hlt => hk (h.row k hlt), h.ne, h.no⟩
theorem swap_id {w : World} {base : Nat} {v : Value} {H : List HV} {S : List Shr} (h : RowsI w base v H S) {i k : Nat} (hi : i < S.length) : ∃ g c B1 c1 B2 c2, k < S.length → v = .slice (some ⟨g, 0, none⟩) H.length c ∧ g < w.heap.size ∧ base ≤ g ∧ (hvAt H i).2 = .slice B1 (vS S i).length c1 ∧ (hvAt H k).2 = .slice B2 (vS S k).length c2 ∧
      w.cell? ⟨g, i * 2, none⟩ = some (.int .i64 (hS S i)) ∧ w.cell? ⟨g, i * 2 + 1, none⟩ = some (.slice B1 (vS S i).length c1) ∧ w.cell? ⟨g, k * 2, none⟩ = some (.int .i64 (hS S k)) ∧ w.cell? ⟨g, k * 2 + 1, none⟩ = some (.slice B2 (vS S k).length c2) ∧ ∀ j, w.frozen? ⟨g, j, none⟩ = false := by
  obtain ⟨g, c, hv, hg, hbg, -, -, hcell, hfr⟩ := h.out.form (by rw [h.len]; omega)
  obtain ⟨B1, c1, hv1, -⟩ := own_ints (h.row i hi) rfl
  obtain ⟨a1, a2⟩ := hcell i (by rw [h.len]; exact hi)
  by_cases hk : k < S.length
  · obtain ⟨B2, c2, hv2, -⟩ := own_ints (h.row k hk) rfl
    obtain ⟨a3, a4⟩ := hcell k (by rw [h.len]; exact hk)
    exact ⟨g, c, B1, c1, B2, c2, fun _ => ⟨hv, hg, hbg, hv1, hv2, by rw [a1, h.hold i hi], by rw [a2, hv1], by rw [a3, h.hold k hk], by rw [a4, hv2], hfr⟩⟩
  · exact ⟨g, c, B1, c1, none, 0, fun e => absurd e hk⟩
end Go.Proofs.YtjckpammcgeloaaDoor
namespace Go.Proofs.YtjckpammcgeloaaDoor
open Go.RowKit

attribute [local go_sem high] sliced_low
/-- All shares are the values of the polynomials F at their holders. -/
structure OnP (p h m : Nat) (F : Nat → List Nat) (N : List ShN) : Prop where
  on : ∀ s ∈ N, 1 ≤ s.1 ∧ s.1 ≤ h ∧ s.2 = (List.range m).map fun i => evN p (F i) s.1
  nd : (hsN N).Nodup
theorem mem_at {N : List ShN} {k : Nat} (hk : k < N.length) : (hN N k, vN N k) ∈ N := by rw [← getD_at hk]; exact List.getElem_mem hk
theorem OnP.at_ {p h m : Nat} {F : Nat → List Nat} {N : List ShN} (H : OnP p h m F N) {k : Nat} (hk : k < N.length) : 1 ≤ hN N k ∧ hN N k ≤ h ∧ vN N k = (List.range m).map fun i => evN p (F i) (hN N k) := H.on _ (mem_at hk)
theorem OnP.good {p h m : Nat} {F : Nat → List Nat} {N : List ShN} (H : OnP p h m F N) (hp : 1 ≤ p) (hm : m ≤ 2048) : GoodN p h N := by
  have hl : ∀ k, k < N.length → (vN N k).length = m := fun k hk => by rw [(H.at_ hk).2.2]; simp
  refine ⟨fun k hk => ⟨(H.at_ hk).1, (H.at_ hk).2.1, fun x hx => ?_⟩, fun k hk => by rw [hl k hk, hl 0 (by omega)], fun k hk => by rw [hl k hk]; exact hm, H.nd⟩
  rw [(H.at_ hk).2.2] at hx
  obtain ⟨i, -, rfl⟩ := List.mem_map.1 hx
  exact evN_lt hp _ _
theorem OnP.sub {p h m : Nat} {F : Nat → List Nat} {N M : List ShN} (H : OnP p h m F N) (hs : M.Sublist N) : OnP p h m F M := ⟨fun s h => H.on s (hs.subset h), H.nd.sublist (hs.map _)⟩
theorem OnP.take {p h m : Nat} {F : Nat → List Nat} {N : List ShN} (H : OnP p h m F N) (n : Nat) : OnP p h m F (N.take n) := H.sub (List.take_sublist _ _)
theorem OnP.perm {p h m : Nat} {F : Nat → List Nat} {N M : List ShN} (H : OnP p h m F N) (hs : M.Perm N) : OnP p h m F M := ⟨fun s h => H.on s (hs.subset h), (hs.map Prod.fst).nodup_iff.2 H.nd⟩
theorem OnP.val {p h m : Nat} {F : Nat → List Nat} {N : List ShN} (H : OnP p h m F N) {k i : Nat} (hk : k < N.length) (hi : i < m) : nthN (vN N k) i = evN p (F i) (hN N k) := by
  rw [(H.at_ hk).2.2, nthN_eq (by simpa using hi)]; simp
theorem OnP.weigh {p h m n : Nat} {F : Nat → List Nat} {N : List ShN} (H : OnP p h m F N) (hp : PrimeN p) (hh : h < p) (hn : n ≤ N.length) (hF : ∀ i, i < m → (F i).length ≤ n) {i : Nat} (hi : i < m) (x : Nat) :
    wgN p (wsN p (hsN (N.take n)) x) (colN (N.take n) i) n = evN p (F i) x := by
  have hT := H.take n
  have hl : (N.take n).length = n := by rw [List.length_take]; omega
  have hlt : ∀ y ∈ hsN (N.take n), y < p := fun y hy => by
    obtain ⟨s, hs, rfl⟩ := List.mem_map.1 hy
    have := hT.on s hs; omega
  have := interpN (L := F i) (ys := colN (N.take n) i) hp hlt hT.nd (by rw [hsN_len, hl]; exact hF i hi) (fun k hk => by
    rw [hsN_len] at hk
    rw [colN_nth hk, hsN_nth hk, hT.val hk hi]) x
  rw [hsN_len, hl] at this; exact this
theorem OnP.comb {p h m n : Nat} {F : Nat → List Nat} {N : List ShN} (H : OnP p h m F N) (hp : PrimeN p) (hh : h < p) (h1 : 1 ≤ n) (hn : n ≤ N.length) (hF : ∀ i, i < m → (F i).length ≤ n) :
    combN p n N = (List.range m).map fun i => evN p (F i) 0 := by
  have h0 : (vN N 0).length = m := by rw [(H.at_ (show 0 < N.length by omega)).2.2]; simp
  unfold combN
  rw [h0]
  refine List.map_congr_left fun i hi => ?_
  exact H.weigh hp hh hn hF (List.mem_range.1 hi) 0
theorem OnP.fit {p h m n : Nat} {F : Nat → List Nat} {N : List ShN} (H : OnP p h m F N) (hp : PrimeN p) (hh : h < p) (hn : n ≤ N.length) (hF : ∀ i, i < m → (F i).length ≤ n) : FitP p n N := fun k _ hk2 i hi => by
  have h0 : (vN N 0).length = m := by rw [(H.at_ (show 0 < N.length by omega)).2.2]; simp
  rw [h0] at hi
  unfold fitAt
  rw [H.weigh hp hh hn hF hi, H.val hk2 hi]

/-! ### What the functions say of such shares -/
theorem plB_true {p n h : Nat} (h1 : 1 ≤ n) (h2 : n ≤ h) (h3 : h ≤ 16) (h4 : h < p) (hv : validI (p : Int) = true) : plB p n h = true := (plB_yes ⟨by omega, by omega, by omega, by omega, hv⟩).symm
theorem cm_on {p n h m : Nat} {F : Nat → List Nat} {N : List ShN} (H : OnP p h m F N) (hp : PrimeN p) (hpl : plB p n h = true) (hm : m ≤ 2048) (hn : n ≤ N.length) (hF : ∀ i, i < m → (F i).length ≤ n) :
    cmE p n h (shL N) = 0 ∧ cmL p n h (shL N) = (List.range m).map fun i => evN p (F i) 0 := by
  obtain ⟨l1, l2, l3, l4, -⟩ := of_decide_eq_true hpl
  have hg := (gdB_yes (gd_back (H.good (by omega) hm))).symm
  have he := (cmE_ok hpl hg (by rw [shL_len]; omega)).symm
  exact ⟨he, by rw [cmL_ok he, H.comb hp (by omega) (by omega) hn hF]⟩
theorem cm_few {p n h m : Nat} {F : Nat → List Nat} {N : List ShN} (H : OnP p h m F N) (hpl : plB p n h = true) (hm : m ≤ 2048) (hn : N.length < n) : cmE p n h (shL N) = 5 := by
  obtain ⟨l1, l2, l3, l4, -⟩ := of_decide_eq_true hpl
  exact (cmE_few hpl (gdB_yes (gd_back (H.good (by omega) hm))).symm (by rw [shL_len]; omega)).symm
theorem ft_on {p n h m : Nat} {F : Nat → List Nat} {N : List ShN} (H : OnP p h m F N) (hp : PrimeN p) (hpl : plB p n h = true) (hm : m ≤ 2048) (hF : ∀ i, i < m → (F i).length ≤ n) : ftB p n h (shL N) = true := by
  obtain ⟨l1, l2, l3, l4, -⟩ := of_decide_eq_true hpl
  have hg := (gdB_yes (gd_back (H.good (by omega) hm))).symm
  by_cases hn : (N.length : Int) ≤ n
  · exact (ftB_few hpl hg (by rw [shL_len]; exact hn)).symm
  · have := ftB_more hpl hg (by rw [shL_len]; exact hn)
    rw [natL_shL, Int.toNat_natCast, Int.toNat_natCast] at this
    exact (ftB_yes this (H.fit hp (by omega) (by omega) hF)).symm
/-- Another order of such shares. -/
theorem on_perm {p h m : Nat} {F : Nat → List Nat} {N : List ShN} (H : OnP p h m F N) {Q : List Shr} (hq : Q.Perm (shL N)) : ∃ M, Q = shL M ∧ M.length = N.length ∧ OnP p h m F M := by
  have h1 : (natL Q).Perm N := by have := hq.map natS; rwa [show (shL N).map natS = N from natL_shL N] at this
  have h2 : Q = shL (natL Q) := by
    simp only [shL, natL, List.map_map]
    conv => lhs; rw [← List.map_id Q]
    refine List.map_congr_left fun s hs => ?_
    obtain ⟨t, -, rfl⟩ := List.mem_map.1 (hq.subset hs)
    simp only [Function.comp, natS, shI, Int.toNat_natCast, toNat_ofN, id]
  exact ⟨natL Q, h2, h1.length_eq, H.perm h1⟩

/-! ### Dealt shares -/
theorem evN_at0 {p : Nat} {L : List Nat} (h : ∀ x ∈ L, x < p) (hp : 1 ≤ p) : evN p L 0 = nthN L 0 := by
  cases L with
  | nil => rfl
  | cons c L =>
    have hc := h c (by simp)
    simp only [evN, nthN, List.getD_cons_zero, fmul, fadd, Nat.mul_zero, Nat.zero_mod, Nat.zero_add]
    exact Nat.mod_eq_of_lt hc
theorem polN_zero {sec ran : List Nat} {k i : Nat} : nthN (polN sec ran k i) 0 = nthN sec i := by simp [polN, nthN]
theorem deal_on {p n h : Nat} {sec ran : List Nat} : OnP p h sec.length (fun i => polN sec ran (n - 1) i) (dealN p n h sec ran) := by
  refine ⟨fun s hs => ?_, ?_⟩
  · obtain ⟨j, hj, rfl⟩ := List.mem_map.1 hs
    have := List.mem_range.1 hj
    exact ⟨by simp, by simp only; omega, rfl⟩
  · refine nodup_hsN fun k hk j hj => ?_
    unfold dealN at hk ⊢
    rw [dealtT_len] at hk
    rw [(dealtT_at hk).1, (dealtT_at (show j < h by omega)).1]; omega
theorem deal_len (p n h : Nat) (sec ran : List Nat) : (dealN p n h sec ran).length = h := dealtT_len _ _ _ _ _ _
theorem deal_sec {p n : Nat} {sec ran : List Nat} (hp : 1 ≤ p) (hs : ∀ x ∈ sec, x < p) (hr : ∀ x ∈ ran, x < p) : (List.range sec.length).map (fun i => evN p (polN sec ran (n - 1) i) 0) = sec := by
  refine extN (by simp) fun k hk => ?_
  simp only [List.length_map, List.length_range] at hk
  rw [nthN_eq (by simpa using hk)]
  simp only [List.getElem_map, List.getElem_range]
  rw [evN_at0 (polN_lt hp hs hr _ _) hp, polN_zero]
theorem polN_le {sec ran : List Nat} {n i : Nat} (h1 : 1 ≤ n) : (polN sec ran (n - 1) i).length ≤ n := Nat.le_trans polN_len (by omega)
theorem dl_nats {p n h : Nat} {sec ran : List Nat} (hpl : plB p n h = true) (hm : sec.length ≤ 2048) (hs : ∀ x ∈ sec, x < p) (hr : ∀ x ∈ ran, x < p) (hl : ran.length = sec.length * (n - 1)) :
    dlE p n h (ofN sec) (ofN ran) = 0 ∧ dlL p n h (ofN sec) (ofN ran) = dealN p n h sec ran := by
  obtain ⟨l1, l2, l3, l4, -⟩ := of_decide_eq_true hpl
  have he : dlE p n h (ofN sec) (ofN ran) = 0 := dlE_ok hpl (by rw [len_ofN]; omega) ⟨nat_inside hs, nat_inside hr, by
    rw [len_ofN, len_ofN, hl, show ((n : Int) - 1) = ((n - 1 : Nat) : Int) by omega]; push_cast; rfl⟩
  exact ⟨he, by unfold dlL; rw [if_pos he, toNat_ofN, toNat_ofN, Int.toNat_natCast, Int.toNat_natCast, Int.toNat_natCast]⟩
theorem prime_valid {p : Nat} (hp : PrimeN p) (h : p ≤ 1073741824) : primeV p = validI p ∧ validI (p : Int) = true := by
  have h1 := validI_prime hp h
  exact ⟨by rw [h1]; exact (primeV_true h hp).symm, h1⟩
theorem deal_awake : dealN 7 2 3 [3] [1] = [(1, [4]), (2, [5]), (3, [6])] := by decide +kernel
end Go.Proofs.YtjckpammcgeloaaDoor
namespace Go.Proofs.YtjckpammcgeloaaDoor
open Go.RowKit

theorem PlanCell.mv {w w' : World} {x D : Nat} {p n h : Int} (H : PlanCell w x p n h) (hg : w.grownBy w' (some D)) (hne : x ≠ D) : PlanCell w' x p n h := H.keep (hg.block x H.lt (fun e => by injection e with e; exact hne e))
theorem grown_undrew {w w' : World} {r : Option Nat} (h : w.drew.grownBy w' r) : w.grownBy w' r := ⟨h.os, h.tape, h.output, h.size, h.block⟩
theorem Env.bases {w w' : World} {D : Nat} {R : List Int} (h : Env w w' D R) (hB : Bases w) : Bases w' := hB.below h.below hB.1
theorem ShErr.open_ {S : List Shr} {er : Int} {w w' : World} {e : Ending} (h : ShErr S er w e w') : ∃ A c, e = .returned (.tuple #[.slice A S.length c, .int .i64 er]) ∧ ShP (fun b => w.heap.size ≤ b) w' A c S ∧ Below w.heap.size w w' := h
theorem ShP.away {w w' : World} {D : Nat} {A : Option Addr} {c : Nat} {S : List Shr} (h : ShP (fun b => w.heap.size ≤ b) w' A c S) (hD : D < w.heap.size) : ShP (· ≠ D) w' A c S := h.mono fun b _ hb => by omega
theorem short_shL {N : List ShN} (h : ∀ k, k < N.length → (vN N k).length ≤ 1048576) : Short (shL N) := fun k hk => by
  rw [shL_len] at hk
  rw [vS_shL, len_ofN]; exact h k hk
theorem OnP.short {p h m : Nat} {F : Nat → List Nat} {N : List ShN} (H : OnP p h m F N) (hm : m ≤ 1048576) : Short (shL N) := short_shL fun k hk => by rw [(H.at_ hk).2.2]; simp; exact hm
end Go.Proofs.YtjckpammcgeloaaDoor
namespace Go.Proofs.YtjckpammcgeloaaDoor
open Go.RowKit

structure PlanN (p n h : Nat) : Prop where
  pr : PrimeN p
  pv : primeV p = validI p
  pl : plB p n h = true
  n1 : 1 ≤ n
  nh : n ≤ h
  h7 : h ≤ 16
  hp : h < p
  p2 : p ≤ 1073741824
theorem PlanN.mk' {p n h : Nat} (hp : PrimeN p) (h2 : p ≤ 1073741824) (h1 : 1 ≤ n) (hh : n ≤ h) (h7 : h ≤ 7) (hlt : h < p) : PlanN p n h :=
  ⟨hp, (prime_valid hp h2).1, plB_true h1 hh (by omega) hlt (prime_valid hp h2).2, h1, hh, by omega, hlt, h2⟩
theorem PlanN.p1 {p n h : Nat} (H : PlanN p n h) : 1 ≤ p := by have := H.pr.1; omega

/-- Shares of the list sec. -/
structure Made (p n h : Nat) (sec : List Nat) (N : List ShN) : Prop where
  ex : ∃ F, OnP p h sec.length F N ∧ (∀ i, i < sec.length → (F i).length ≤ n) ∧ (List.range sec.length).map (fun i => evN p (F i) 0) = sec
theorem Made.perm {p n h : Nat} {sec : List Nat} {N M : List ShN} (H : Made p n h sec N) (hs : M.Perm N) : Made p n h sec M := by
  obtain ⟨F, h1, h2, h3⟩ := H.ex
  exact ⟨F, h1.perm hs, h2, h3⟩
theorem Made.take {p n h : Nat} {sec : List Nat} {N : List ShN} (H : Made p n h sec N) (k : Nat) : Made p n h sec (N.take k) := by
  obtain ⟨F, h1, h2, h3⟩ := H.ex
  exact ⟨F, h1.take k, h2, h3⟩
theorem Made.short {p n h : Nat} {sec : List Nat} {N : List ShN} (H : Made p n h sec N) (hm : sec.length ≤ 1048576) : Short (shL N) := by
  obtain ⟨F, h1, h2, h3⟩ := H.ex
  exact h1.short hm
theorem Made.cm {p n h : Nat} {sec : List Nat} {N : List ShN} (H : Made p n h sec N) (P : PlanN p n h) (hm : sec.length ≤ 2048) (hn : n ≤ N.length) : cmE p n h (shL N) = 0 ∧ cmL p n h (shL N) = sec := by
  obtain ⟨F, h1, h2, h3⟩ := H.ex
  have := cm_on h1 P.pr P.pl hm hn h2
  rw [h3] at this; exact this
theorem Made.few {p n h : Nat} {sec : List Nat} {N : List ShN} (H : Made p n h sec N) (P : PlanN p n h) (hm : sec.length ≤ 2048) (hn : N.length < n) : cmE p n h (shL N) = 5 ∧ cmL p n h (shL N) = [] := by
  obtain ⟨F, h1, h2, h3⟩ := H.ex
  have := cm_few h1 P.pl hm hn
  exact ⟨this, cmL_no (by rw [this]; decide)⟩
theorem Made.ft {p n h : Nat} {sec : List Nat} {N : List ShN} (H : Made p n h sec N) (P : PlanN p n h) (hm : sec.length ≤ 2048) : ftB p n h (shL N) = true := by
  obtain ⟨F, h1, h2, h3⟩ := H.ex
  exact ft_on h1 P.pr P.pl hm h2
theorem deal_Made {p n h : Nat} {sec ran : List Nat} (P : PlanN p n h) (hs : ∀ x ∈ sec, x < p) (hr : ∀ x ∈ ran, x < p) : Made p n h sec (dealN p n h sec ran) :=
  ⟨_, deal_on, fun _ _ => polN_le P.n1, deal_sec P.p1 hs hr⟩

def DealR (N : List ShN) (h : Nat) (w : World) (e : Ending) (w' : World) : Prop :=
  ∃ A c, e = .returned (.tuple #[.slice A h c, .int .i64 0]) ∧ ShP (fun b => w.heap.size ≤ b) w' A c (shL N) ∧ Below w.heap.size w w'
def Part (M N : List ShN) : Prop := ∃ M' : List ShN, M'.Perm N ∧ M = M'.take M.length
theorem Made.part {p n h : Nat} {sec : List Nat} {N M : List ShN} (H : Made p n h sec N) (hs : Part M N) : Made p n h sec M := by
  obtain ⟨M', h1, h2⟩ := hs
  rw [h2]; exact (H.perm h1).take _
def TurnM (D : Nat) (N : List ShN) (least : Nat) (w : World) (e : Ending) (w' : World) : Prop :=
  ∃ (A : Option Addr) (c : Nat) (M : List ShN) (R' : List Int), e = .returned (.slice A M.length c) ∧ Part M N ∧ M.length ≤ N.length ∧ (least ≤ N.length → least ≤ M.length) ∧ ShP (· ≠ D) w' A c (shL M) ∧ DiceAt w' D R' ∧ w.grownBy w' (some D)
theorem unshL {N : List ShN} {Q : List Shr} (hq : Q.Perm (shL N)) : ∃ M, Q = shL M ∧ M.length = N.length ∧ M.Perm N := by
  have hm : ∀ {Q T : List Shr}, Q.Perm T → ∀ N, T = shL N → ∃ M, Q = shL M ∧ M.Perm N := by
    intro Q T h
    induction h with
    | nil => intro N hN; exact ⟨[], rfl, by cases N with | nil => exact .nil | cons a t => simp [shL] at hN⟩
    | @cons x l1 l2 h ih => intro N hN; cases N with
      | nil => simp [shL] at hN
      | cons a t =>
        have hN' : x = shI a ∧ l2 = shL t := by simpa [shL] using hN
        obtain ⟨M, rfl, hM⟩ := ih t hN'.2
        exact ⟨a :: M, by rw [hN'.1]; rfl, hM.cons a⟩
    | swap x y l => intro N hN; cases N with
      | nil => simp [shL] at hN
      | cons a t => cases t with
        | nil => simp [shL] at hN
        | cons b u =>
          have hN' : x = shI a ∧ y = shI b ∧ l = shL u := by simpa [shL] using hN
          exact ⟨b :: a :: u, by rw [hN'.1, hN'.2.1, hN'.2.2]; rfl, .swap a b u⟩
    | trans h1 h2 ih1 ih2 => intro N hN; obtain ⟨M, e, hM⟩ := ih2 N hN; obtain ⟨K, e2, hK⟩ := ih1 M e; exact ⟨K, e2, hK.trans hM⟩
  obtain ⟨M, e, h⟩ := hm hq N rfl
  exact ⟨M, e, h.length_eq, h⟩
theorem below_drewT (w : World) : Below w.heap.size w w.drew := below_drewN (Below.refl _ w) 1
theorem ShP.drewT {P : Nat → Prop} {w : World} {A : Option Addr} {c : Nat} {S : List Shr} (h : ShP P w A c S) : ShP P w.drew A c S := h.below (below_drewT w)
theorem Held.drewT {w : World} {D : Nat} {A : Option Addr} {c : Nat} {L : List Nat} (h : Held w D A c L) : Held w.drew D A c L := h.below (below_drewT w)
theorem Env.drewT {w0 w : World} {D : Nat} {R : List Int} (h : Env w0 w D R) : Env w0 w.drew D R := h.mv (below_drewT w)
/-- Two equal lists. -/
theorem same_at (A A' : Option Addr) (L : List Nat) (k k' c c' : Nat) (w : World) (hL : NatsAt w A L) (hM : NatsAt w A' L) (hl : L.length ≤ 1152921504606846976) (hk : k = L.length) (hk' : k' = L.length) :
    Calls Tryd.prog 42 #[.slice A k c, .slice A' k' c'] w (Ret (.bool true) w) := by
  subst hk; subst hk'; exact same_nats A A' L c c' w hL hM hl
theorem ListErr.held {L : List Nat} {er : Int} {w w' : World} {e : Ending} {D : Nat} (h : ListErr L er w e w') (hD : D < w.heap.size) : ∃ A c, e = .returned (.tuple #[.slice A L.length c, .int .i64 er]) ∧ Held w' D A c L ∧ Below w.heap.size w w' := by
  obtain ⟨A, c, rfl, h1, h2, h3, h4⟩ := h
  exact ⟨A, c, rfl, held_new hD h1 h2 h3, h4⟩
end Go.Proofs.YtjckpammcgeloaaDoor
