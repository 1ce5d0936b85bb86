/-
  Shares: rows of shares of the own; dealers.
  Shares: a dealer of shares without values.
  Shares: a dealer deals an element.
  Shares: what is dealt.
  Shares: Deal.
  Shares: copies.
  Conditions: those that each theorem names.
-/
import Derived.Test.YtkjpnhhkebbmdaaDoorM4
import Derived.Deep.RegionLaw
import Derived.Conc.EntryLaws
import Derived.Deep.DeepCutAuto
import Derived.Laws.AppendOwnNone
set_option linter.unusedVariables false
set_option linter.unusedSimpArgs false
namespace Go.Proofs.YtkjpnhhkebbmdaaDoor
open Go.RowKit

/-! ### Rows of shares of the own -/
abbrev HV := Int × Value
def flatH : List HV → List Value
  | [] => []
  | x :: H => .int .i64 x.1 :: x.2 :: flatH H
def hvAt (H : List HV) (k : Nat) : HV := H.getD k (0, .slice none 0 0)
theorem flatH_len : ∀ H : List HV, (flatH H).length = H.length * 2
  | [] => rfl
  | x :: H => by simp [flatH, flatH_len H]; omega
theorem flatH_append : ∀ H K : List HV, flatH (H ++ K) = flatH H ++ flatH K
  | [], K => rfl
  | x :: H, K => by simp [flatH, flatH_append H K]
theorem flatH_at : ∀ (H : List HV) (k : Nat), k < H.length → (flatH H)[k * 2]? = some (.int .i64 (hvAt H k).1) ∧ (flatH H)[k * 2 + 1]? = some (hvAt H k).2
  | [], k, h => absurd h (by simp)
  | x :: H, 0, _ => by simp [flatH, hvAt]
  | x :: H, k + 1, h => by
    have ih := flatH_at H k (by simpa using h)
    rw [show (k + 1) * 2 = k * 2 + 1 + 1 by omega]
    simp only [flatH, List.getElem?_cons_succ]
    exact ih
theorem flatH_set1 : ∀ (H : List HV) (i : Nat) (v : Value), i < H.length → (flatH H).set (i * 2 + 1) v = flatH (H.set i ((hvAt H i).1, v))
  | [], i, _, h => absurd h (by simp)
  | y :: H, 0, v, _ => by simp [flatH, hvAt]
  | y :: H, i + 1, v, h => by
    rw [show (i + 1) * 2 + 1 = i * 2 + 1 + 1 + 1 by omega]
    simp only [flatH, List.set_cons_succ]
    rw [flatH_set1 H i v (by simpa using h)]
    simp [hvAt]
theorem flatH_set0 : ∀ (H : List HV) (i : Nat) (x : Int), i < H.length → (flatH H).set (i * 2) (.int .i64 x) = flatH (H.set i (x, (hvAt H i).2))
  | [], i, _, h => absurd h (by simp)
  | y :: H, 0, x, _ => by simp [flatH, hvAt]
  | y :: H, i + 1, x, h => by
    rw [show (i + 1) * 2 = i * 2 + 1 + 1 by omega]
    simp only [flatH, List.set_cons_succ]
    rw [flatH_set0 H i x (by simpa using h)]
    simp [hvAt]
theorem hvAt_set_same (H : List HV) (i : Nat) (x : HV) (h : i < H.length) : hvAt (H.set i x) i = x := by simp [hvAt, List.getD_eq_getElem?_getD, h]
theorem hvAt_set_other (H : List HV) (i j : Nat) (x : HV) (h : i ≠ j) : hvAt (H.set i x) j = hvAt H j := by simp [hvAt, List.getD_eq_getElem?_getD, h]
def isSl : Value → Bool
  | .slice _ _ _ => true
  | _ => false
theorem flatH_one (H : List HV) (h : ∀ k, k < H.length → isSl (hvAt H k).2 = true) : ∀ u ∈ flatH H, u.oneCell' = true := by
  induction H with
  | nil => intro u hu; cases hu
  | cons x H ih =>
    intro u hu
    simp only [flatH, List.mem_cons] at hu
    rcases hu with rfl | rfl | hu
    · rfl
    · have := h 0 (by simp)
      simp only [hvAt, List.getD_cons_zero] at this
      revert this
      cases x.2 <;> simp [isSl, Value.oneCell']
    · exact ih (fun k hk => by have := h (k + 1) (by simpa using hk); simpa [hvAt] using this) u hu
def HvOwn (w : World) (base : Nat) (v : Value) (H : List HV) : Prop := w.ownsRow base 47 2 v H.length (flatH H)
theorem HvOwn.below {w w' : World} {base : Nat} {v : Value} {H : List HV} (h : HvOwn w base v H) (hb : Below w.heap.size w w') : HvOwn w' base v H := own_below h hb
theorem HvOwn.nil (w : World) (base : Nat) : HvOwn w base (.slice none 0 0) [] := ⟨rfl, .inl ⟨rfl, rfl⟩⟩
/-- What a row of the own looks like. -/
theorem HvOwn.form {w : World} {base : Nat} {v : Value} {H : List HV} (h : HvOwn w base v H) (hl : 0 < H.length) :
    ∃ g c, v = .slice (some ⟨g, 0, none⟩) H.length c ∧ g < w.heap.size ∧ base ≤ g ∧ H.length ≤ c ∧ c ≤ maxLen ∧ (∀ k, k < H.length → w.cell? ⟨g, k * 2, none⟩ = some (.int .i64 (hvAt H k).1) ∧ w.cell? ⟨g, k * 2 + 1, none⟩ = some (hvAt H k).2) ∧ ∀ j, w.frozen? ⟨g, j, none⟩ = false := by
  rcases h.2 with ⟨_, h0⟩ | ⟨g, cap, cur, rfl, hg, hh, hnc, hcm, hcs, htk⟩
  · omega
  · refine ⟨g, cap, rfl, blk_lt hh, hg, hnc, hcm, fun k hk => ?_, fun j => by simp [World.frozen?, hh]⟩
    obtain ⟨f1, f2⟩ := flatH_at H k hk
    exact ⟨by rw [h.cellAt (j := k * 2) (by omega)]; exact f1, by rw [h.cellAt (j := k * 2 + 1) (by omega)]; exact f2⟩
theorem HvOwn.set_cell {w : World} {base g c i : Nat} {H H' : List HV} (u : Value) (j : Nat) (h : HvOwn w base (.slice (some ⟨g, 0, none⟩) H.length c) H) (hl : H'.length = H.length) (hj : j < H.length * 2) (he : flatH H' = (flatH H).set j u) (_ : i = j) :
    HvOwn (w.setCell ⟨g, j, none⟩ u) base (.slice (some ⟨g, 0, none⟩) H'.length c) H' := by
  rcases h.2 with ⟨h0, _⟩ | ⟨g', cap, cur, hv, hg, hh, hnc, hcm, hcs, htk⟩
  · cases h0
  · injection hv with h1 h2 h3
    injection h1 with h1
    injection h1 with h1
    subst h1; subst h3
    refine ⟨by rw [flatH_len], .inr ⟨g, c, cur.setIfInBounds j u, by rw [hl], hg, ?_, by rw [hl]; exact hnc, hcm, by simpa using hcs, ?_⟩⟩
    · simp [World.setCell, Array.getElem?_modify, hh]
    · rw [hl, he, ← htk]
      simp [List.take_set]
theorem HvOwn.set1 {w : World} {base g c : Nat} {H : List HV} (h : HvOwn w base (.slice (some ⟨g, 0, none⟩) H.length c) H) (i : Nat) (hi : i < H.length) (v : Value) :
    HvOwn (w.setCell ⟨g, i * 2 + 1, none⟩ v) base (.slice (some ⟨g, 0, none⟩) H.length c) (H.set i ((hvAt H i).1, v)) := by
  have := HvOwn.set_cell (i := i * 2 + 1) (H' := H.set i ((hvAt H i).1, v)) v (i * 2 + 1) h (by simp) (by omega) (flatH_set1 H i v hi).symm rfl
  rwa [List.length_set] at this
theorem HvOwn.set0 {w : World} {base g c : Nat} {H : List HV} (h : HvOwn w base (.slice (some ⟨g, 0, none⟩) H.length c) H) (i : Nat) (hi : i < H.length) (x : Int) :
    HvOwn (w.setCell ⟨g, i * 2, none⟩ (.int .i64 x)) base (.slice (some ⟨g, 0, none⟩) H.length c) (H.set i (x, (hvAt H i).2)) := by
  have := HvOwn.set_cell (i := i * 2) (H' := H.set i (x, (hvAt H i).2)) (.int .i64 x) (i * 2) h (by simp) (by omega) (flatH_set0 H i x hi).symm rfl
  rwa [List.length_set] at this
theorem HvOwn.kept {w w' : World} {base : Nat} {v : Value} {H : List HV} {row : Option Nat} (h : HvOwn w base v H) (hg : w.grownBy w' row) (hne : v.ownBlock = none ∨ v.ownBlock ≠ row) : HvOwn w' base v H := World.ownsRow.kept h hg hne
theorem own_other {w : World} {base : Nat} {e : TypeId} {size : Nat} {v : Value} {n : Nat} {xs : List Value} (h : w.ownsRow base e size v n xs) (p : Addr) (u : Value) (hp : ∀ b, v.ownBlock = some b → b ≠ p.block) : (w.setCell p u).ownsRow base e size v n xs := by
  obtain ⟨h1, h2⟩ := h
  refine ⟨h1, ?_⟩
  rcases h2 with h2 | ⟨g, cap, cur, hv, hg, hh, r⟩
  · exact .inl h2
  · exact .inr ⟨g, cap, cur, hv, hg, (Below.heap_setCell w p u g (hp g (by rw [hv]; rfl))).trans hh, r⟩

/-! ### Rows of shares whose values are rows of the own too -/
structure Rows2 (w : World) (base : Nat) (v : Value) (H : List HV) (T : List ShN) : Prop where
  out : HvOwn w base v H
  len : H.length = T.length
  hold : ∀ k, k < T.length → (hvAt H k).1 = (hN T k : Int)
  row : ∀ k, k < T.length → w.ownsRow base 3 1 (hvAt H k).2 (vN T k).length (valsN (vN T k))
  ne : ∀ i j, i < T.length → j < T.length → i ≠ j → ∀ b, (hvAt H i).2.ownBlock = some b → (hvAt H j).2.ownBlock = some b → False
  no : ∀ i, i < T.length → ∀ b, (hvAt H i).2.ownBlock = some b → v.ownBlock = some b → False
theorem Rows2.below {w w' : World} {base : Nat} {v : Value} {H : List HV} {T : List ShN} (h : Rows2 w base v H T) (hb : Below w.heap.size w w') : Rows2 w' base v H T :=
  ⟨h.out.below hb, h.len, h.hold, fun k hk => own_below (h.row k hk) hb, h.ne, h.no⟩
theorem own_sl2 {w : World} {base : Nat} {v : Value} {L : List Nat} (h : w.ownsRow base 3 1 v L.length (valsN L)) : isSl v = true := by
  obtain ⟨A, c, rfl, -⟩ := own_sl h rfl; rfl
/-- What such a row is to readers. -/
theorem Rows2.read {w : World} {base : Nat} {v : Value} {H : List HV} {T : List ShN} (h : Rows2 w base v H T) : ∃ A c, v = .slice A T.length c ∧ ShP (fun b => base ≤ b) w A c (shL T) := by
  rcases Nat.eq_zero_or_pos T.length with h0 | h0
  · have : T = [] := List.eq_nil_of_length_eq_zero h0
    subst this
    have hH : H = [] := List.eq_nil_of_length_eq_zero h.len
    have ho := h.out
    subst hH
    rcases ho.2 with ⟨rfl, -⟩ | ⟨g, cap, cur, rfl, hg, hh, hnc, hcm, hcs, htk⟩
    · exact ⟨none, 0, rfl, ShP.nil _ _⟩
    · exact ⟨_, cap, rfl, fun k hk => absurd hk (by simp [shL]), ⟨Nat.zero_le _, hcm, (fun e => by cases e), .inl rfl⟩⟩
  · obtain ⟨g, c, rfl, hg, hbg, hlc, hcm, hcell, -⟩ := h.out.form (by rw [h.len]; exact h0)
    refine ⟨some ⟨g, 0, none⟩, c, by rw [h.len], fun k hk => ?_, ⟨by rw [shL_len, ← h.len]; exact hlc, hcm, (fun e => by cases e), .inr (fun a e => by injection e with e; subst e; rfl)⟩⟩
    rw [shL_len] at hk
    obtain ⟨c1, c2⟩ := hcell k (by rw [h.len]; exact hk)
    obtain ⟨B, c', hv, hN, hS, hb⟩ := own_sl (h.row k hk) rfl
    refine ⟨g, 0, B, c', rfl, hg, hbg, ?_, ?_, ?_⟩
    · rw [Nat.zero_add, c1, h.hold k hk, hS_shL hk]
    · rw [Nat.zero_add, c2, hv, vS_shL, len_ofN]
    · rw [vS_shL]
      exact ⟨hN.ints, by rw [len_ofN]; exact hS.iok, fun b off e => .inr (hb b off e).1⟩
end Go.Proofs.YtkjpnhhkebbmdaaDoor
namespace Go.Proofs.YtkjpnhhkebbmdaaDoor
open Go.RowKit

/-- append of one share onto a row of the own. -/
theorem app_hv {ops : Array Oper} {rest : List Oper} {o : Oper} {a : Act} {Q : Exit → Act → World → Prop} (hgd : o.guard = none) (s x : Operand)
    (ho : o.op = .call { callee := .builtin .append, args := #[s, x], argTypes := #[37, 37] })
    {base : Nat} {w : World} {v : Value} {H : List HV} {g : Nat} (y : HV) (hs : a.eval s = v) (hown : HvOwn w base v H)
    (hx : a.eval x = .slice (some ⟨g, 0, none⟩) 1 1) (hg : w.heap[g]? = some (.cells #[.int .i64 y.1, y.2] 47 (0, 0))) (hy : isSl y.2 = true) (hl : H.length ≤ 1048576) (hbase : base ≤ w.heap.size)
    (h : ∀ v' w', HvOwn w' base v' (H ++ [y]) → w.grownBy w' v.ownBlock → Below base w w' → (v'.ownBlock = v.ownBlock ∨ v'.ownBlock = some w.heap.size) → wpList Tryd.prog ops Q rest (a.put o.dst v') w') :
    wpList Tryd.prog ops Q (o :: rest) a w := by
  obtain ⟨i0, hi, hz0, hz1, hz2⟩ := info_parts info_share
  refine wpList_append_own_at w hgd s x 37 ho base 47 i0 _ 2 32 Tryd.underlying37 hi hz0 hz1 hz2 rfl (by omega) v H.length (flatH H) hs hown ⟨g, 0, none⟩ 1 1 (flatH [y]) hx (flatH_len [y]) (fun j u hu => ?_) (flatH_one [y] (fun k hk => ?_)) (by unfold maxLen; omega) (by omega) hbase ?_
  · have hj : j < 2 := by
      rcases Nat.lt_or_ge j 2 with h1 | h1
      · exact h1
      · rw [List.getElem?_eq_none (by rw [flatH_len]; simp; omega)] at hu; cases hu
    have : j = 0 ∨ j = 1 := by omega
    rcases this with rfl | rfl
    · rw [show (⟨g, 0, none⟩ : Addr).add 0 = ⟨g, 0, none⟩ from rfl, cell_of_row w g 0 _ _ (0, 0) hg, ← hu]; rfl
    · rw [show (⟨g, 0, none⟩ : Addr).add 1 = ⟨g, 1, none⟩ from rfl, cell_of_row w g 1 _ _ (0, 0) hg, ← hu]; rfl
  · have : k = 0 := by simp at hk; omega
    subst this; exact hy
  · intro v' w' h2 h3 _ h5
    refine h v' w' ?_ h3 ((Below.refl _ _).grown h3 hbase (fun k hk => (World.ownsRow.lt hown k hk).1)) h5
    unfold HvOwn; rw [List.length_append, flatH_append]; exact h2

def DlrAt (w : World) (d base : Nat) (p n h : Int) (T : List ShN) : Prop :=
  d < base ∧ base ≤ w.heap.size ∧ ∃ v H, w.heap[d]? = some (.cells #[.int .i64 p, .int .i64 n, .int .i64 h, v] 76 (0, 0)) ∧ Rows2 w base v H T
def emptyT (k : Nat) : List ShN := (List.range k).map fun m => (m + 1, [])
theorem emptyT_len (k : Nat) : (emptyT k).length = k := by simp [emptyT]
theorem emptyT_succ (k : Nat) : emptyT (k + 1) = emptyT k ++ [(k + 1, [])] := by simp [emptyT, List.range_succ]
theorem hvAt_append {H K : List HV} {k : Nat} (h : k < H.length) : hvAt (H ++ K) k = hvAt H k := by simp [hvAt, List.getD_eq_getElem?_getD, List.getElem?_append_left h]
theorem hvAt_last {H : List HV} {y : HV} : hvAt (H ++ [y]) H.length = y := by simp [hvAt, List.getD_eq_getElem?_getD]
theorem hN_append {T K : List ShN} {k : Nat} (h : k < T.length) : hN (T ++ K) k = hN T k ∧ vN (T ++ K) k = vN T k := by simp [hN, vN, List.getD_eq_getElem?_getD, List.getElem?_append_left h]
theorem hN_last {T : List ShN} {y : ShN} : hN (T ++ [y]) T.length = y.1 ∧ vN (T ++ [y]) T.length = y.2 := by simp [hN, vN, List.getD_eq_getElem?_getD]
/-- One share without values more. -/
theorem Rows2.more {w w' : World} {base : Nat} {v v' : Value} {H : List HV} {T : List ShN} (h : Rows2 w base v H T) (x : Nat) (xi : Int) (hx : xi = (x : Int)) (hown : HvOwn w' base v' (H ++ [(xi, .slice none 0 0)])) (hg : w.grownBy w' v.ownBlock)
    (hv : v'.ownBlock = v.ownBlock ∨ v'.ownBlock = some w.heap.size) : Rows2 w' base v' (H ++ [(xi, .slice none 0 0)]) (T ++ [(x, [])]) := by
  subst hx
  have hl := h.len
  have hcase : ∀ k, k < (T ++ [(x, [])]).length → k < T.length ∨ k = T.length := fun k hk => by simp at hk; omega
  refine ⟨hown, by simp [hl], fun k hk => ?_, fun k hk => ?_, fun i j hi hj hij b e1 e2 => ?_, fun i hi b e1 e2 => ?_⟩
  · rcases hcase k hk with hk | rfl
    · rw [hvAt_append (by omega), (hN_append hk).1]; exact h.hold k hk
    · rw [← hl, hvAt_last, hl, hN_last.1]
  · rcases hcase k hk with hk | rfl
    · rw [hvAt_append (by omega), (hN_append hk).2]
      refine (h.row k hk).kept hg ?_
      rcases he : (hvAt H k).2.ownBlock with _ | b
      · exact .inl rfl
      · exact .inr (fun e => h.no k hk b he e.symm)
    · rw [← hl, hvAt_last, hl, hN_last.2]; exact World.ownsRow_nil _ _ _ _
  · rcases hcase i hi with hi | rfl
    · rcases hcase j hj with hj | rfl
      · rw [hvAt_append (by omega)] at e1 e2; exact h.ne i j hi hj hij b e1 e2
      · rw [← hl, hvAt_last] at e2; cases e2
    · rw [← hl, hvAt_last] at e1; cases e1
  · rcases hcase i hi with hi | rfl
    · rw [hvAt_append (by omega)] at e1
      rcases hv with e | e
      · exact h.no i hi b e1 (e ▸ e2)
      · have := (World.ownsRow.lt (h.row i hi) b e1).2
        rw [e] at e2; injection e2 with e2; omega
    · rw [← hl, hvAt_last] at e1; cases e1
theorem HvOwn.sl {w : World} {base : Nat} {v : Value} {H : List HV} (h : HvOwn w base v H) : ∃ A c, v = .slice A H.length c := by
  rcases h.2 with ⟨rfl, h0⟩ | ⟨g, cap, cur, rfl, -⟩
  · exact ⟨none, 0, by rw [h0]⟩
  · exact ⟨_, cap, rfl⟩
theorem HvOwn.slx {w : World} {base : Nat} {v : Value} {H : List HV} {y : HV} (h : HvOwn w base v (H ++ [y])) : ∃ A c, v = .slice A (H.length + 1) c := by
  obtain ⟨A, c, e⟩ := h.sl
  exact ⟨A, c, by rw [e]; simp⟩
theorem Rows2.other {w : World} {base : Nat} {v : Value} {H : List HV} {T : List ShN} (h : Rows2 w base v H T) (q : Addr) (u : Value) (hq : q.block < base) : Rows2 (w.setCell q u) base v H T :=
  ⟨own_other h.out q u (fun b e => by have := (World.ownsRow.lt h.out b e).1; omega), h.len, h.hold, fun k hk => own_other (h.row k hk) q u (fun b e => by have := (World.ownsRow.lt (h.row k hk) b e).1; omega), h.ne, h.no⟩
theorem dlr_box {w : World} {d : Nat} {p n h : Int} {v : Value} (hd : w.heap[d]? = some (.cells #[.int .i64 p, .int .i64 n, .int .i64 h, v] 76 (0, 0))) :
    w.cell? ⟨d, 0, none⟩ = some (.int .i64 p) ∧ w.cell? ⟨d, 3, none⟩ = some v ∧ ∀ j, w.frozen? ⟨d, j, none⟩ = false := by
  refine ⟨?_, ?_, fun j => by simp [World.frozen?, hd]⟩
  · rw [cell_of_row w d 0 _ _ (0, 0) hd]; rfl
  · rw [cell_of_row w d 3 _ _ (0, 0) hd]; rfl
theorem dlr_set {w : World} {d : Nat} {p n h : Int} {v : Value} (hd : w.heap[d]? = some (.cells #[.int .i64 p, .int .i64 n, .int .i64 h, v] 76 (0, 0))) (u : Value) :
    (w.setCell ⟨d, 3, none⟩ u).heap[d]? = some (.cells #[.int .i64 p, .int .i64 n, .int .i64 h, u] 76 (0, 0)) := by
  simp [World.setCell, Array.getElem?_modify, hd]

set_option maxRecDepth 100000 in
set_option maxHeartbeats 4000000 in
theorem newDealer_any (p n h : Nat) (w : World) (hh : h ≤ 1000) :
    Calls Tryd.prog 45 #[planV p n h] w (fun e w' => ∃ d base, e = .returned (.pointer (some ⟨d, 0, none⟩)) ∧ w.heap.size ≤ d ∧ DlrAt w' d base p n h (emptyT h) ∧ Below w.heap.size w w') := by
  go_enter Tryd.func45, Tryd.ntmps45
  go_wp2_with fail
  refine gen_world fun w1 hw1 => ?_
  have hpl : PlanCell w1 w.heap.size p n h := by rw [hw1]; exact (PlanCell.new _ _ _ rfl).alloc _
  have hd1 : w1.heap[w.heap.size + 1]? = some (.cells #[.int .i64 (p : Int), .int .i64 (n : Int), .int .i64 (h : Int), .slice none 0 0] 76 (0, 0)) := by
    rw [hw1]
    have := heap_alloc_new (w.alloc (.cells #[.int .i64 (p : Int), .int .i64 (n : Int), .int .i64 (h : Int)] 24)) (.cells #[.int .i64 (p : Int), .int .i64 (n : Int), .int .i64 (h : Int), .slice none 0 0] 76)
    rw [size_alloc] at this; exact this
  have hb1 : Below w.heap.size w w1 := by rw [hw1]; exact below_trans (below_alloc _ _) (below_alloc _ _)
  have hs1 : w1.heap.size = w.heap.size + 2 := by rw [hw1]; simp
  have p2 := hpl.c2
  have HD1 := Lib.hid hd1
  have HS1 := Lib.hid hs1
  have hs1' : w.heap.size + 2 ≤ w1.heap.size := by omega
  clear hw1 hd1 hs1
  go_wp2_with fail
  go_loopw [10] (fun i wr => ∃ k : Nat, k ≤ h ∧ i = .int .i64 k ∧ DlrAt wr (w.heap.size + 1) (w.heap.size + 2) p n h (emptyT k) ∧ Below w.heap.size w wr) (fun i _ => h - (intOf i).toNat)
  case atStart =>
    refine ⟨0, Nat.zero_le _, rfl, ⟨by omega, hs1', .slice none 0 0, [], HD1.out, ⟨HvOwn.nil _ _, rfl, fun k hk => absurd hk (by simp [emptyT]), fun k hk => absurd hk (by simp [emptyT]), fun i j hi => absurd hi (by simp [emptyT]), fun i hi => absurd hi (by simp [emptyT])⟩⟩, hb1⟩
  case round =>
    obtain ⟨k, hk, rfl, ⟨hd, hbs, v, H, hbox, hR⟩, hb⟩ := hrel
    obtain ⟨A, c, rfl, -⟩ := hR.read
    by_cases hlt : k < h
    · obtain ⟨-, b3, bf⟩ := dlr_box hbox
      have f3 := bf 3
      have HR := Lib.hid hR
      have HBX := Lib.hid hbox
      have hlH : H.length ≤ 1000 := by rw [hR.len, emptyT_len]; omega
      have hld := blk_lt hbox
      clear bf hbox hR p2
      have HB4 := Lib.hid (fun (w4 : World) (o : Obj) (hb4 : Below (w.heap.size + 2) (wr.alloc o) w4) => (hb4.block (w.heap.size + 1) (by omega)).trans ((heap_alloc_old wr o hld).trans HBX.out))
      go_wp2_with (at_builtin; refine app_hv rfl (.tmp 17) (.tmp 21) rfl (base := w.heap.size + 2) (H := H) (v := .slice A (emptyT k).length c) ((k : Int) + 1, .slice none 0 0) rfl (HR.out.out.below (below_alloc _ _)) rfl (heap_alloc_new _ _) rfl (by omega) (by simp; omega) ?_; intro v4 w4 hown4 hg4 hb4 hv4; obtain ⟨A4, c4, rfl⟩ := hown4.slx; have HV4 := Lib.hid hv4; clear hv4; have hx4 := HB4.out w4 _ hb4; have g3 := (dlr_box hx4).2.1; have f4 := (dlr_box hx4).2.2 3; have HX4 := Lib.hid hx4; clear hx4)
      have hR4 := ((HR.out.below (below_alloc _ _)).more (k + 1) _ (by omega) hown4 hg4 HV4.out).other ⟨w.heap.size + 1, 3, none⟩ (.slice A4 (H.length + 1) c4) (by simp)
      have hz4 := hb4.size
      have HN4 := Lib.hid (And.intro hR4 (And.intro (dlr_set HX4.out (.slice A4 (H.length + 1) c4)) (((hb.trans ((below_alloc wr _).mono (by omega))).trans (hb4.mono (by omega))).setCell (p := ⟨w.heap.size + 1, 3, none⟩) (by simp) (.slice A4 (H.length + 1) c4))))
      clear hR4 hown4 hg4
      go_roundw
      case rel => exact ⟨k + 1, by omega, by go_num, ⟨by omega, by simp [World.setCell] at hz4 ⊢; omega, _, _, HN4.out.2.1, by rw [emptyT_succ]; exact HN4.out.1⟩, HN4.out.2.2⟩
      case measure => simp [intOf]; omega
    · obtain rfl : k = h := by omega
      have HX := Lib.hid (show DlrAt wr (w.heap.size + 1) (w.heap.size + 2) p n k (emptyT k) from ⟨hd, hbs, _, H, hbox, hR⟩)
      clear hbox hR p2
      go_wp2_with fail
      go_ret
      exact ⟨_, _, rfl, by omega, HX.out, hb⟩
end Go.Proofs.YtkjpnhhkebbmdaaDoor
namespace Go.Proofs.YtkjpnhhkebbmdaaDoor
open Go.RowKit

theorem Rows2.grow {w W w' : World} {base g c : Nat} {H : List HV} {T : List ShN} (h : Rows2 w base (.slice (some ⟨g, 0, none⟩) H.length c) H T) (k : Nat) (hk : k < T.length) (y : Nat) (g' cap : Nat) (hW : Below w.heap.size w W)
    (hown : w'.ownsRow base 3 1 (.slice (some ⟨g', 0, none⟩) ((vN T k).length + 1) cap) ((vN T k).length + 1) (valsN (vN T k ++ [y]))) (hg : W.grownBy w' (hvAt H k).2.ownBlock) (hat : (hvAt H k).2.ownBlock = some g' ∨ g' = W.heap.size) :
    Rows2 (w'.setCell ⟨g, k * 2 + 1, none⟩ (.slice (some ⟨g', 0, none⟩) ((vN T k).length + 1) cap)) base (.slice (some ⟨g, 0, none⟩) H.length c) (H.set k ((hvAt H k).1, .slice (some ⟨g', 0, none⟩) ((vN T k).length + 1) cap)) (T.set k (hN T k, vN T k ++ [y])) := by
  have hl := h.len
  have hWs := hW.size
  have hgb : ∀ b, (Value.slice (some ⟨g, 0, none⟩) H.length c).ownBlock = some b → b = g := fun b e => (Option.some.inj (show some g = some b from e)).symm
  have hrg : ∀ j, j < T.length → ∀ b, (hvAt H j).2.ownBlock = some b → b ≠ g := fun j hj b e e2 => h.no j hj b e (by rw [e2]; rfl)
  have hW1 := h.below hW
  have hout := hW1.out.kept hg (by
    rcases he : (hvAt H k).2.ownBlock with _ | b
    · exact .inr (fun e => by cases e)
    · exact .inr (fun e => hrg k hk b he (Option.some.inj (show some g = some b from e)).symm))
  have hg'g : g' ≠ g := by
    rcases hat with e | e
    · exact hrg k hk g' e
    · have := (World.ownsRow.lt h.out g rfl).2; omega
  have hTs : ∀ j, j ≠ k → hN (T.set k (hN T k, vN T k ++ [y])) j = hN T j ∧ vN (T.set k (hN T k, vN T k ++ [y])) j = vN T j := fun j hj => by
    simp [hN, vN, List.getD_eq_getElem?_getD, List.getElem?_set_ne (Ne.symm hj)]
  have hTk : hN (T.set k (hN T k, vN T k ++ [y])) k = hN T k ∧ vN (T.set k (hN T k, vN T k ++ [y])) k = vN T k ++ [y] := by
    simp [hN, vN, List.getD_eq_getElem?_getD, hk]
  have hrows : ∀ j, j < T.length → j ≠ k → w'.ownsRow base 3 1 (hvAt H j).2 (vN T j).length (valsN (vN T j)) := fun j hj hjk => (hW1.row j hj).kept hg (by
    rcases he : (hvAt H j).2.ownBlock with _ | b
    · exact .inl rfl
    · exact .inr (fun e => h.ne j k hj hk hjk b he e.symm))
  have hbk : ∀ j, j < T.length → j ≠ k → ∀ b, (hvAt H j).2.ownBlock = some b → b ≠ g' := fun j hj hjk b e e2 => by
    rcases hat with e3 | e3
    · exact h.ne j k hj hk hjk b e (by rw [e3, e2])
    · have := (World.ownsRow.lt (h.row j hj) b e).2; omega
  have hs := hout.set1 k (by omega) (.slice (some ⟨g', 0, none⟩) ((vN T k).length + 1) cap)
  refine ⟨?_, by simp [hl], fun j hj => ?_, fun j hj => ?_, fun i j hi hj hij b e1 e2 => ?_, fun i hi b e1 e2 => ?_⟩
  · exact hs
  · simp only [List.length_set] at hj
    by_cases hjk : j = k
    · subst hjk; rw [hvAt_set_same _ _ _ (by omega), hTk.1]; exact h.hold j hj
    · rw [hvAt_set_other _ _ _ _ (Ne.symm hjk), (hTs j hjk).1]; exact h.hold j hj
  · simp only [List.length_set] at hj
    by_cases hjk : j = k
    · subst hjk
      rw [hvAt_set_same _ _ _ (by omega), hTk.2, List.length_append]
      exact own_other hown _ _ (fun b e => by
        have : g' = b := Option.some.inj (show some g' = some b from e)
        subst this; exact hg'g)
    · rw [hvAt_set_other _ _ _ _ (Ne.symm hjk), (hTs j hjk).2]
      exact own_other (hrows j hj hjk) _ _ (fun b e => hrg j hj b e)
  · simp only [List.length_set] at hi hj
    by_cases hik : i = k
    · subst hik
      rw [hvAt_set_same _ _ _ (by omega)] at e1
      rw [hvAt_set_other _ _ _ _ hij] at e2
      exact hbk j hj (Ne.symm hij) b e2 (Option.some.inj (show some g' = some b from e1)).symm
    · rw [hvAt_set_other _ _ _ _ (Ne.symm hik)] at e1
      by_cases hjk : j = k
      · subst hjk
        rw [hvAt_set_same _ _ _ (by omega)] at e2
        exact hbk i hi hik b e1 (Option.some.inj (show some g' = some b from e2)).symm
      · rw [hvAt_set_other _ _ _ _ (Ne.symm hjk)] at e2
        exact h.ne i j hi hj hij b e1 e2
  · simp only [List.length_set] at hi
    have hb := hgb b (by simpa using e2)
    by_cases hik : i = k
    · subst hik
      rw [hvAt_set_same _ _ _ (by omega)] at e1
      exact hg'g ((Option.some.inj (show some g' = some b from e1)).trans hb)
    · rw [hvAt_set_other _ _ _ _ (Ne.symm hik)] at e1
      exact hrg i hi b e1 hb

def stepT (p : Nat) (f : List Nat) (T : List ShN) (k : Nat) : List ShN := (List.range T.length).map fun j => (hN T j, if j < k then vN T j ++ [evN p f (hN T j)] else vN T j)
theorem stepT_len (p : Nat) (f : List Nat) (T : List ShN) (k : Nat) : (stepT p f T k).length = T.length := by simp [stepT]
theorem stepT_at {p : Nat} {f : List Nat} {T : List ShN} {k j : Nat} (hj : j < T.length) : hN (stepT p f T k) j = hN T j ∧ vN (stepT p f T k) j = if j < k then vN T j ++ [evN p f (hN T j)] else vN T j := by
  simp [stepT, hN, vN, List.getD_eq_getElem?_getD, hj]
theorem shl_ext {S T : List ShN} (hl : S.length = T.length) (h : ∀ k, k < S.length → hN S k = hN T k ∧ vN S k = vN T k) : S = T := by
  refine List.ext_getElem hl fun k h1 h2 => ?_
  rw [getD_at h1, getD_at h2, (h k h1).1, (h k h1).2]
theorem set_at {S : List ShN} {k a : Nat} {b : List Nat} (hk : k < S.length) : hN (S.set k (a, b)) k = a ∧ vN (S.set k (a, b)) k = b := by simp [hN, vN, List.getD_eq_getElem?_getD, hk]
theorem stepT_zero (p : Nat) (f : List Nat) (T : List ShN) : stepT p f T 0 = T :=
  shl_ext (stepT_len _ _ _ _) fun k hk => by
    rw [stepT_len] at hk
    obtain ⟨e1, e2⟩ := stepT_at (p := p) (f := f) (k := 0) hk
    rw [e1, e2, if_neg (by omega)]; exact ⟨rfl, rfl⟩
theorem stepT_succ {p : Nat} {f : List Nat} {T : List ShN} {k : Nat} (hk : k < T.length) :
    stepT p f T (k + 1) = (stepT p f T k).set k (hN (stepT p f T k) k, vN (stepT p f T k) k ++ [evN p f (hN (stepT p f T k) k)]) := by
  refine shl_ext (by simp [stepT_len]) fun j hj => ?_
  rw [stepT_len] at hj
  obtain ⟨e1, e2⟩ := stepT_at (p := p) (f := f) (k := k + 1) hj
  obtain ⟨e3, e4⟩ := stepT_at (p := p) (f := f) (k := k) hj
  obtain ⟨e5, e6⟩ := stepT_at (p := p) (f := f) (k := k) hk
  rw [e1, e2]
  by_cases hjk : j = k
  · subst hjk
    have hs := set_at (S := stepT p f T j) (k := j) (a := hN (stepT p f T j) j) (b := vN (stepT p f T j) j ++ [evN p f (hN (stepT p f T j) j)]) (by rw [stepT_len]; exact hj)
    rw [hs.1, hs.2, e5, e6, if_pos (by omega), if_neg (by omega)]
    exact ⟨rfl, rfl⟩
  · have : hN ((stepT p f T k).set k (hN (stepT p f T k) k, vN (stepT p f T k) k ++ [evN p f (hN (stepT p f T k) k)])) j = hN (stepT p f T k) j ∧ vN ((stepT p f T k).set k (hN (stepT p f T k) k, vN (stepT p f T k) k ++ [evN p f (hN (stepT p f T k) k)])) j = vN (stepT p f T k) j := by
      simp [hN, vN, List.getD_eq_getElem?_getD, List.getElem?_set_ne (Ne.symm hjk)]
    rw [this.1, this.2, e3, e4]
    refine ⟨rfl, ?_⟩
    by_cases h1 : j < k
    · rw [if_pos h1, if_pos (by omega)]
    · rw [if_neg h1, if_neg (by omega)]
/-- The polynomial's list lies in none of the rows. -/
def FarF (F : Option Addr) (v : Value) (H : List HV) (m : Nat) : Prop := ∀ bF off, F = some ⟨bF, off, none⟩ → (∀ i, i < m → ∀ b, (hvAt H i).2.ownBlock = some b → b ≠ bF) ∧ ∀ b, v.ownBlock = some b → b ≠ bF
theorem NatsAt.keepF {w w' : World} {A : Option Addr} {L : List Nat} (h : NatsAt w A L) (hs : w.heap.size ≤ w'.heap.size) (hb : ∀ b off, A = some ⟨b, off, none⟩ → b < w.heap.size → w'.heap[b]? = w.heap[b]?) : NatsAt w' A L := fun k hk => by
  obtain ⟨b, off, hA, hlt, hc⟩ := h k hk
  exact ⟨b, off, hA, Nat.lt_of_lt_of_le hlt hs, (World.cell?_of_block (w := w) (hb b off hA hlt)).trans hc⟩
theorem Rows2.slot {w : World} {base : Nat} {v : Value} {H : List HV} {T : List ShN} (h : Rows2 w base v H T) {k : Nat} (hk : k < T.length) :
    ∃ g c B c', v = .slice (some ⟨g, 0, none⟩) H.length c ∧ (hvAt H k).2 = .slice B (vN T k).length c' ∧ g < w.heap.size ∧ base ≤ g ∧ w.cell? ⟨g, k * 2, none⟩ = some (.int .i64 (hN T k : Nat)) ∧ w.cell? ⟨g, k * 2 + 1, none⟩ = some (.slice B (vN T k).length c') ∧ ∀ j, w.frozen? ⟨g, j, none⟩ = false := by
  obtain ⟨g, c, hv, hg, hbg, -, -, hcell, hfr⟩ := h.out.form (by rw [h.len]; omega)
  obtain ⟨B, c', hv2, -⟩ := own_sl (h.row k hk) rfl
  obtain ⟨c1, c2⟩ := hcell k (by rw [h.len]; exact hk)
  exact ⟨g, c, B, c', hv, hv2, hg, hbg, by rw [c1, h.hold k hk], by rw [c2, hv2], hfr⟩
theorem grown_blk {wr w4 W w5 : World} {g : Nat} {r : Option Nat} (hg : g < wr.heap.size) (hb4 : Below wr.heap.size wr w4) (hbW : Below w4.heap.size w4 W) (hg5 : W.grownBy w5 r) (hne : some g ≠ r) : w5.heap[g]? = wr.heap[g]? :=
  (hg5.block g (Nat.lt_of_lt_of_le hg (Nat.le_trans hb4.size hbW.size)) hne).trans ((hbW.block g (Nat.lt_of_lt_of_le hg hb4.size)).trans (hb4.block g hg))
theorem frozen_of_block {w w' : World} {b o : Nat} (h : w'.heap[b]? = w.heap[b]?) : w'.frozen? ⟨b, o, none⟩ = w.frozen? ⟨b, o, none⟩ := by unfold World.frozen?; simp only; rw [h]
theorem deal_next {wr w4 W w5 : World} {base d g c k y g' cap : Nat} {H : List HV} {S : List ShN} {F : Option Addr} {f : List Nat} (hd : d < base) (hbase : base ≤ wr.heap.size)
    (hR : Rows2 wr base (.slice (some ⟨g, 0, none⟩) H.length c) H S) (hk : k < S.length) (hFar : FarF F (.slice (some ⟨g, 0, none⟩) H.length c) H S.length) (hF : NatsAt wr F f) (hFlt : ∀ bF off, F = some ⟨bF, off, none⟩ → bF < wr.heap.size)
    (hb4 : Below wr.heap.size wr w4) (hbW : Below w4.heap.size w4 W) (hown : w5.ownsRow base 3 1 (.slice (some ⟨g', 0, none⟩) ((vN S k).length + 1) cap) ((vN S k).length + 1) (valsN (vN S k ++ [y])))
    (hg5 : W.grownBy w5 (hvAt H k).2.ownBlock) (hat : (hvAt H k).2.ownBlock = some g' ∨ g' = W.heap.size) (hb5 : Below base w4 w5) :
    (w5.setCell ⟨g, k * 2 + 1, none⟩ (.slice (some ⟨g', 0, none⟩) ((vN S k).length + 1) cap)).heap[d]? = wr.heap[d]? ∧
    Rows2 (w5.setCell ⟨g, k * 2 + 1, none⟩ (.slice (some ⟨g', 0, none⟩) ((vN S k).length + 1) cap)) base (.slice (some ⟨g, 0, none⟩) H.length c) (H.set k ((hvAt H k).1, .slice (some ⟨g', 0, none⟩) ((vN S k).length + 1) cap)) (S.set k (hN S k, vN S k ++ [y])) ∧
    FarF F (.slice (some ⟨g, 0, none⟩) H.length c) (H.set k ((hvAt H k).1, .slice (some ⟨g', 0, none⟩) ((vN S k).length + 1) cap)) S.length ∧
    NatsAt (w5.setCell ⟨g, k * 2 + 1, none⟩ (.slice (some ⟨g', 0, none⟩) ((vN S k).length + 1) cap)) F f ∧
    Below base wr (w5.setCell ⟨g, k * 2 + 1, none⟩ (.slice (some ⟨g', 0, none⟩) ((vN S k).length + 1) cap)) := by
  have hgb := (World.ownsRow.lt hR.out g rfl)
  have hl := hR.len
  refine ⟨?_, (hR.below hb4).grow k hk y g' cap hbW hown hg5 hat, fun bF off e => ⟨fun i hi b e2 => ?_, fun b e2 => (hFar bF off e).2 b e2⟩, ?_, ?_⟩
  · rw [Below.heap_setCell _ _ _ _ (by simp; omega), hb5.block d hd, hb4.block d (by omega)]
  · by_cases hik : i = k
    · subst hik
      rw [hvAt_set_same _ _ _ (by omega)] at e2
      have hb : g' = b := Option.some.inj (show some g' = some b from e2)
      subst hb
      rcases hat with e3 | e3
      · exact (hFar bF off e).1 i hi g' e3
      · have h1 := hFlt bF off e
        have h2 := hb4.size
        have h3 := hbW.size
        omega
    · rw [hvAt_set_other _ _ _ _ (Ne.symm hik)] at e2
      exact (hFar bF off e).1 i hi b e2
  · refine hF.keepF (by have := hb4.size; have := hbW.size; have := hg5.size; simp [World.setCell]; omega) fun bF off e hlt => ?_
    have h1 := (hFar bF off e).2 g rfl
    rw [Below.heap_setCell _ _ _ _ (by simp; omega)]
    exact grown_blk hlt hb4 hbW hg5 (fun e2 => (hFar bF off e).1 k hk bF e2.symm rfl)
  · exact ((hb4.mono hbase).trans hb5).setCell (by simp; omega) _
/-- append of one number onto a row of the own, in a region that draws. -/
theorem step_app_row {ops : Array Oper} {o : Oper} {a : Act} {K : Act → World → Prop} {Q : Exit → Act → World → Prop} {E : Prop} (W : World) (hgd : o.guard = none) (s x : Operand)
    (ho : o.op = .call { callee := .builtin .append, args := #[s, x], argTypes := #[22, 22] })
    (w5 : World) (base : Nat) (v : Value) (S : List Nat) (y : Nat) (hs : a.eval s = v) (hx : a.eval x = .slice (some ⟨w5.heap.size, 0, none⟩) 1 1)
    (hW : W.heap = (w5.alloc (.cells #[.int .i64 (y : Int)] 3)).heap ∧ W.os = w5.os ∧ W.tape = w5.tape ∧ W.output = w5.output)
    (hown : w5.ownsRow base 3 1 v S.length (valsN S)) (hl : S.length ≤ 4194304) (hbase : base ≤ w5.heap.size)
    (h : ∀ g cap w', w'.ownsRow base 3 1 (.slice (some ⟨g, 0, none⟩) (S.length + 1) cap) (S.length + 1) (valsN (S ++ [y])) → W.grownBy w' v.ownBlock → Below w5.heap.size w5 W → (v.ownBlock = some g ∨ g = W.heap.size) → Below base w5 w' → K (a.put o.dst (.slice (some ⟨g, 0, none⟩) (S.length + 1) cap)) w') :
    if Region.wanted o (yielded ops a.tmps) = true then Oper.wp Tryd.prog o a W K Q else E := by
  obtain ⟨i0, hi, hz0, hz1, hz2⟩ := info_parts info_int
  have hownW : W.ownsRow base 3 1 v S.length (valsN S) := by
    obtain ⟨h1, h2⟩ := own_below hown (below_alloc w5 (.cells #[.int .i64 (y : Int)] 3))
    refine ⟨h1, ?_⟩
    rw [hW.1]; exact h2
  have hsz : W.heap.size = w5.heap.size + 1 := by rw [hW.1]; simp
  have hcell : ∀ x, W.cell? x = (w5.alloc (.cells #[.int .i64 (y : Int)] 3)).cell? x := fun x => by unfold World.cell?; rw [hW.1]
  refine step_append_lies _ hgd s x 22 ho base 3 i0 _ 1 8 Tryd.underlying22 hi hz0 hz1 hz2 rfl (by omega) v S.length (valsN S) hs hownW ⟨w5.heap.size, 0, none⟩ 1 1 (valsN [y]) hx rfl (fun j u hu => (hcell _).trans ((lit1_nats w5 y).nats.news rfl j u hu)) (valsN_one [y]) (by omega) (by unfold maxLen; omega) (by omega) (by omega) _ rfl ?_
  intro g cap w' ho' hg hat _
  have hbW : Below w5.heap.size w5 W := ⟨hW.2.1, hW.2.2.1, hW.2.2.2, by omega, fun k hk => by rw [hW.1]; exact heap_alloc_old w5 _ hk⟩
  refine h g cap w' ?_ hg hbW hat ((hbW.mono hbase).trans ((Below.refl _ _).grown hg (by omega) (fun k hk => by have := (hown.lt k hk).1; omega)))
  simpa [valsN] using ho'

/-- A call of a function by its contract, in a region that draws. -/
theorem step_call {ops : Array Oper} {o : Oper} {a : Act} {K : Act → World → Prop} {Q : Exit → Act → World → Prop} {E : Prop} {R : Ending → World → Prop} (W : World) (hgd : o.guard = none) (fid : FuncId) (xs : Array Operand) (ts : Array TypeId)
    (ho : o.op = .call { callee := .value (.func fid), args := xs, argTypes := ts }) (hen : ∀ args w, (callFunc fid args).run Tryd.prog w = .ok (.enter fid args) w) (args : Array Value) (ha : xs.map a.eval = args)
    (hc : Calls Tryd.prog fid args W R) (h : ∀ e w', R e w' → ∃ v, e = .returned v ∧ K (a.put o.dst v) w') :
    if Region.wanted o (yielded ops a.tmps) = true then Oper.wp Tryd.prog o a W K Q else E := by
  have hw : Region.wanted o (yielded ops a.tmps) = true := by simp [Region.wanted, hgd]
  rw [if_pos hw]
  have hcl : (execOp a.eval o).run Tryd.prog W = .ok (.enter fid args) W := by
    rw [Go.Conc.execOp_call_func ho, hen, ha]
  unfold Oper.wp
  rw [hcl]
  refine Calls.mono hc ?_
  intro e w' hr
  obtain ⟨v, rfl, hk⟩ := h e w' hr
  exact hk
theorem enter_eval (args : Array Value) (w : World) : (callFunc 67 args).run Tryd.prog w = .ok (.enter 67 args) w :=
  Go.MuLone.run_callFunc_enter Tryd.func67 (by kernel_rfl) rfl args w
theorem step_evalC {ops : Array Oper} {o : Oper} {a : Act} {K : Act → World → Prop} {Q : Exit → Act → World → Prop} {E : Prop} {p y x : Nat} {F : Option Addr} {cf m : Nat} (W : World) (hgd : o.guard = none) (s1 s2 s3 : Operand) (ts : Array TypeId)
    (ho : o.op = .call { callee := .value (.func 67), args := #[s1, s2, s3], argTypes := ts }) (h1 : a.eval s1 = .int .i64 (p : Int)) (h2 : a.eval s2 = .slice F m cf) (h3 : a.eval s3 = .int .i64 (x : Int))
    (hc : Calls Tryd.prog 67 #[.int .i64 (p : Int), .slice F m cf, .int .i64 (x : Int)] W (RetB (.int .i64 (y : Int)) W)) (h : ∀ w', Below W.heap.size W w' → K (a.put o.dst (.int .i64 (y : Int))) w') :
    if Region.wanted o (yielded ops a.tmps) = true then Oper.wp Tryd.prog o a W K Q else E :=
  step_call W hgd _ _ ts ho enter_eval _ (by simp [h1, h2, h3]) hc (fun e w' hr => by obtain ⟨rfl, hb⟩ := hr; exact ⟨_, rfl, h w' hb⟩)

set_option maxRecDepth 100000 in
set_option maxHeartbeats 4000000 in
theorem deal_any (d base p : Nat) (n h : Int) (T : List ShN) (F : Option Addr) (cf : Nat) (f : List Nat) (w : World) (v0 : Value) (H0 : List HV) (hd : d < base) (hbs : base ≤ w.heap.size)
    (hbox : w.heap[d]? = some (.cells #[.int .i64 (p : Int), .int .i64 n, .int .i64 h, v0] 76 (0, 0))) (hR : Rows2 w base v0 H0 T) (hF : NatsAt w F f) (hFar : FarF F v0 H0 T.length)
    (hFlt : ∀ bF off, F = some ⟨bF, off, none⟩ → bF < w.heap.size)
    (hp : 1 ≤ p) (hp2 : p ≤ 2147483648) (hf : ∀ x ∈ f, x < p) (hh : ∀ k, k < T.length → hN T k < p) (hfl : f.length ≤ 1048576) (htl : T.length ≤ 1000) (hvl : ∀ k, k < T.length → (vN T k).length ≤ 1048576) :
    Calls Tryd.prog 46 #[.pointer (some ⟨d, 0, none⟩), .slice F f.length cf] w
      (fun e w' => e = .returned (.tuple #[]) ∧ DlrAt w' d base p n h (stepT p f T T.length) ∧ Below base w w') := by
  have HF0 := Lib.hid hF
  have HFL := Lib.hid hFlt
  have HPF := Lib.hid hf
  have HH := Lib.hid hh
  have HVL := Lib.hid hvl
  have HR0 := Lib.hid hR
  have HFar0 := Lib.hid hFar
  have HBX0 := Lib.hid hbox
  obtain ⟨b0, b3, bf⟩ := dlr_box hbox
  have hld := blk_lt hbox
  obtain ⟨V0, cv0, rfl, -⟩ := hR.read
  clear hF hFlt hf hh hvl hR hFar hbox bf
  go_enter Tryd.func46, Tryd.ntmps46
  go_wp2_with fail
  go_loopw [11] (fun i wr => ∃ (k : Nat) (v : Value) (H : List HV), k ≤ T.length ∧ i = .int .i64 k ∧ wr.heap[d]? = some (.cells #[.int .i64 (p : Int), .int .i64 n, .int .i64 h, v] 76 (0, 0)) ∧ Rows2 wr base v H (stepT p f T k) ∧ FarF F v H T.length ∧ NatsAt wr F f ∧ Below base w wr) (fun i _ => T.length - (intOf i).toNat)
  case atStart => exact ⟨0, _, _, Nat.zero_le _, rfl, HBX0.out, by rw [stepT_zero]; exact HR0.out, HFar0.out, HF0.out, Below.refl _ _⟩
  case round =>
    obtain ⟨k, v, H, hk, rfl, hbox, hR, hFar, hF, hb⟩ := hrel
    have hsz := hb.size
    obtain ⟨c0, c3, cf0⟩ := dlr_box hbox
    have hldr := blk_lt hbox
    clear b0 b3
    by_cases hlt : k < T.length
    · have hkS : k < (stepT p f T k).length := by rw [stepT_len]; exact hlt
      obtain ⟨g, c, B, c', rfl, hv2, hg, hbg, g1, g2, gf⟩ := hR.slot hkS
      have HROW := Lib.hid (hR.row k hkS)
      have HR := Lib.hid hR
      have HSUC := Lib.hid (stepT_succ (p := p) (f := f) hlt)
      obtain ⟨e1, e2⟩ := stepT_at (p := p) (f := f) (k := k) hlt
      rw [if_neg (by omega)] at e2
      have hxp := HH.out k hlt
      have hvk := HVL.out k hlt
      have gf1 := gf (k * 2 + 1)
      rw [hv2] at HROW
      have HV2 := Lib.hid hv2
      have hHl : H.length = T.length := by rw [hR.len, stepT_len]
      have HFar := Lib.hid hFar
      have HF := Lib.hid hF
      have HBX := Lib.hid hbox
      have HTL := Lib.hid hHl
      have i1 : (0 : Int) ≤ (k : Int) := by omega
      have i2 : (k : Int) < (H.length : Int) := by omega
      rw [e2] at HROW g2
      rw [e1] at g1
      rw [e1, e2] at HSUC
      have hlv : (vN T k).length ≤ 1048576 := hvk
      have HE := Lib.hid (And.intro e1 e2)
      have hev := evN_lt hp f (hN T k)
      clear hR hFar hF hbox gf cf0 hv2 e1 e2 hHl
      generalize hx : hN T k = x at *
      generalize hL : vN T k = L at *
      have HXL := Lib.hid (And.intro hx hL)
      have HGB := Lib.hid (fun (w4 W w5 : World) (h1 : Below wr.heap.size wr w4) (h2 : Below w4.heap.size w4 W) (h3 : W.grownBy w5 (Value.slice B L.length c').ownBlock) => grown_blk (g := g) hg h1 h2 h3 (fun e => HR.out.no k hkS g (by rw [HV2.out, HE.out.2]; exact e.symm) rfl))
      have HEV := Lib.hid (fun (W : World) (hW : NatsAt W F f) => eval_any p x F f cf W hp hp2 hxp HPF.out hW (by omega))
      generalize evN p f x = y at *
      clear hx hL
      go_wp2_with fail
      go_region_law (first
        | (refine step_evalC _ rfl (.tmp 29) (.tmp 30) (.tmp 34) _ rfl rfl rfl rfl (HEV.out _ (by exact HF.out)) ?_; intro w4 hb4; have l4 : g < w4.heap.size := (Nat.lt_of_lt_of_le hg hb4.size); have l4d : d < w4.heap.size := (Nat.lt_of_lt_of_le hldr hb4.size); have m0 := (hb4.cell (p := ⟨d, 0, none⟩) hldr).trans c0; have m1 := (hb4.cell (p := ⟨g, k * 2, none⟩) hg).trans g1; have m2 := (hb4.cell (p := ⟨g, k * 2 + 1, none⟩) hg).trans g2; have m3 := (hb4.frozen (p := ⟨g, k * 2 + 1, none⟩) hg).trans gf1)
        | (refine step_app_row _ rfl (.tmp 24) (.tmp 36) rfl w4 base (.slice B L.length c') L y rfl rfl ⟨rfl, rfl, rfl, rfl⟩ (own_below HROW.out (below_undrew1 hb4)) (by omega) (by have := (below_undrew1 hb4).size; omega) ?_; intro g' cap w5 hown5 hg5 hbW5 hat5 hb5; have hbk5 := HGB.out _ _ _ (below_undrew1 hb4) hbW5 hg5; have n2 : w5.cell? ⟨g, k * 2 + 1, none⟩ = some (.slice B L.length c') := (World.cell?_of_block (w := wr) hbk5).trans g2; have n3 : w5.frozen? ⟨g, k * 2 + 1, none⟩ = false := (frozen_of_block hbk5).trans gf1))
      all_goals
        have HNX := deal_next hd (Nat.le_trans hbs hsz) HR.out hkS (by rw [stepT_len]; exact HFar.out) HF.out (fun bF off e => Nat.lt_of_lt_of_le (HFL.out bF off e) hsz) (below_undrew1 hb4) hbW5 (by rw [HE.out.2]; exact hown5) (by rw [HV2.out, HE.out.2]; exact hg5) (by rw [HV2.out, HE.out.2]; exact hat5) hb5
        rw [HE.out.1, HE.out.2, stepT_len, ← HSUC.out] at HNX
        have HNXH := Lib.hid HNX
        clear HNX hown5 hg5 hat5 n2 n3
        go_wp2_with fail
        go_roundw
        case rel => exact ⟨k + 1, _, _, by omega, by go_num, HNXH.out.1.trans HBX.out, HNXH.out.2.1, HNXH.out.2.2.1, HNXH.out.2.2.2.1, hb.trans HNXH.out.2.2.2.2⟩
        case measure => simp [intOf]; omega
    · obtain rfl : k = T.length := by omega
      have HX := Lib.hid (show DlrAt wr d base p n h (stepT p f T T.length) from ⟨hd, Nat.le_trans hbs hsz, _, H, hbox, hR⟩)
      clear hbox hR hF hFar
      go_wp2_with fail
      (try simp only [Exit.inBlock, Exit.then])
      refine bodyPost_end (results_none rfl _ _ _) rfl ?_
      exact ⟨rfl, HX.out, hb⟩
end Go.Proofs.YtkjpnhhkebbmdaaDoor
namespace Go.Proofs.YtkjpnhhkebbmdaaDoor
open Go.RowKit

/-- append of a slice, nil or not, onto a row of the own. -/
theorem app_sl {ops : Array Oper} {rest : List Oper} {o : Oper} {a : Act} {Q : Exit → Act → World → Prop} (hgd : o.guard = none) (s x : Operand)
    (ho : o.op = .call { callee := .builtin .append, args := #[s, x], argTypes := #[22, 22] })
    {base : Nat} {w : World} {v : Value} {S : List Nat} (T : List Nat) (ad : Option Addr) (c : Nat) (hs : a.eval s = v) (hown : w.ownsRow base 3 1 v S.length (valsN S))
    (hx : a.eval x = .slice ad T.length c) (hT : NatsAt w ad T) (hN : ad = none → T.length = 0 ∧ c = 0) (hsp : T.length = 0 ∨ ∀ a, ad = some a → a.spot = none) (hl : S.length + T.length ≤ 4294967296) (hbase : base ≤ w.heap.size)
    (h : ∀ v' w', w'.ownsRow base 3 1 v' (S ++ T).length (valsN (S ++ T)) → Below base w w' → wpList Tryd.prog ops Q rest (a.put o.dst v') w') :
    wpList Tryd.prog ops Q (o :: rest) a w := by
  obtain ⟨i0, hi, hz0, hz1, hz2⟩ := info_parts info_int
  rcases ad with _ | ad
  · obtain ⟨h1, rfl⟩ := hN rfl
    have : T = [] := List.eq_nil_of_length_eq_zero h1
    subst this
    refine wpList_append_own_none hgd s x 22 ho base 3 i0 1 Tryd.underlying22 hi v S.length (valsN S) hs hown hx ?_
    exact h v w (by rw [List.append_nil]; exact hown) (Below.refl _ _)
  · refine app_nats hgd s x ho hs hown hx ?_ hl hbase fun v' w' h1 _ h3 => h v' w' h1 h3
    rcases hsp with h0 | h0
    · have : T = [] := List.eq_nil_of_length_eq_zero h0
      subst this
      intro j u hj; simp at hj
    · exact hT.news (h0 ad rfl)

def polN (sec ran : List Nat) (k i : Nat) : List Nat := [nthN sec i] ++ (ran.drop (i * k)).take k
def dealtT (p h : Nat) (sec ran : List Nat) (k m : Nat) : List ShN := (List.range h).map fun j => (j + 1, (List.range m).map fun i => evN p (polN sec ran k i) (j + 1))
theorem dealtT_len (p h : Nat) (sec ran : List Nat) (k m : Nat) : (dealtT p h sec ran k m).length = h := by simp [dealtT]
theorem dealtT_at {p h : Nat} {sec ran : List Nat} {k m j : Nat} (hj : j < h) : hN (dealtT p h sec ran k m) j = j + 1 ∧ vN (dealtT p h sec ran k m) j = (List.range m).map fun i => evN p (polN sec ran k i) (j + 1) := by
  simp [dealtT, hN, vN, List.getD_eq_getElem?_getD, hj]
theorem dealtT_zero (p h : Nat) (sec ran : List Nat) (k : Nat) : dealtT p h sec ran k 0 = emptyT h := by simp [dealtT, emptyT]
theorem dealtT_succ (p h : Nat) (sec ran : List Nat) (k m : Nat) : stepT p (polN sec ran k m) (dealtT p h sec ran k m) (dealtT p h sec ran k m).length = dealtT p h sec ran k (m + 1) := by
  refine shl_ext (by rw [stepT_len, dealtT_len, dealtT_len]) fun j hj => ?_
  rw [stepT_len, dealtT_len] at hj
  obtain ⟨e1, e2⟩ := stepT_at (p := p) (f := polN sec ran k m) (T := dealtT p h sec ran k m) (k := (dealtT p h sec ran k m).length) (j := j) (by rw [dealtT_len]; exact hj)
  rw [if_pos (by rw [dealtT_len]; exact hj)] at e2
  obtain ⟨e3, e4⟩ := dealtT_at (p := p) (sec := sec) (ran := ran) (k := k) (m := m) hj
  obtain ⟨e5, e6⟩ := dealtT_at (p := p) (sec := sec) (ran := ran) (k := k) (m := m + 1) hj
  rw [e1, e2, e3, e4, e5, e6, List.range_succ, List.map_append]
  exact ⟨rfl, rfl⟩
theorem polN_len {sec ran : List Nat} {k i : Nat} : (polN sec ran k i).length ≤ k + 1 := by
  unfold polN; rw [List.length_append, List.length_take]; simp; omega
theorem polN_lt {p : Nat} (hp : 1 ≤ p) {sec ran : List Nat} (h1 : ∀ x ∈ sec, x < p) (h2 : ∀ x ∈ ran, x < p) (k i : Nat) : ∀ x ∈ polN sec ran k i, x < p := by
  unfold polN
  refine app_lt (fun x hx => ?_) (fun x hx => h2 x (List.mem_of_mem_drop (List.mem_of_mem_take hx)))
  simp at hx; subst hx; exact nthN_lt hp h1 i
/-- The shares of a secret. -/
def dealN (p n h : Nat) (sec ran : List Nat) : List ShN := dealtT p h sec ran (n - 1) sec.length
def dlE (p n h : Int) (sec ran : List Int) : Int := if plB p n h = true then (if 2048 < sec.length then 3 else if inside p sec = true ∧ inside p ran = true ∧ (ran.length : Int) = sec.length * (n - 1) then 0 else 2) else 1
def dlL (p n h : Int) (sec ran : List Int) : List ShN := if dlE p n h sec ran = 0 then dealN p.toNat n.toNat h.toNat (sec.map Int.toNat) (ran.map Int.toNat) else []
theorem dlL_no {p n h : Int} {sec ran : List Int} (H : dlE p n h sec ran ≠ 0) : dlL p n h sec ran = [] := by unfold dlL; rw [if_neg H]
theorem dlE_pl {p n h : Int} {sec ran : List Int} (H : plB p n h = false) : dlE p n h sec ran = 1 := by unfold dlE; rw [H]; rfl
theorem dlE_big {p n h : Int} {sec ran : List Int} (H : plB p n h = true) (H2 : 2048 < sec.length) : dlE p n h sec ran = 3 := by unfold dlE; rw [if_pos H, if_pos H2]
theorem dlE_bad {p n h : Int} {sec ran : List Int} (H : plB p n h = true) (H2 : ¬ 2048 < sec.length) (H3 : ¬ (inside p sec = true ∧ inside p ran = true ∧ (ran.length : Int) = sec.length * (n - 1))) : dlE p n h sec ran = 2 := by unfold dlE; rw [if_pos H, if_neg H2, if_neg H3]
theorem dlE_ok {p n h : Int} {sec ran : List Int} (H : plB p n h = true) (H2 : ¬ 2048 < sec.length) (H3 : inside p sec = true ∧ inside p ran = true ∧ (ran.length : Int) = sec.length * (n - 1)) : dlE p n h sec ran = 0 := by unfold dlE; rw [if_pos H, if_neg H2, if_pos H3]

theorem prod_bd {c n : Int} (h1 : 0 ≤ c) (h2 : c ≤ 1048576) (h3 : 1 ≤ n) (h4 : n ≤ 1048576) : 0 ≤ c * (n - 1) ∧ c * (n - 1) ≤ 1099511627776 := by
  constructor
  · exact Int.mul_nonneg h1 (by omega)
  · have := Int.mul_le_mul h2 (show n - 1 ≤ 1048576 by omega) (by omega) (by omega)
    omega
set_option maxHeartbeats 400000 in
theorem random_any (p n h c : Int) (w : World) (h1 : 0 ≤ c) (h2 : c ≤ 1048576) (h3 : 1 ≤ n) (h4 : n ≤ 1048576) :
    Calls Tryd.prog 23 #[planV p n h, .int .i64 c] w (RetB (.int .i64 (c * (n - 1))) w) := by
  obtain ⟨b1, b2⟩ := prod_bd h1 h2 h3 h4
  go_enter Tryd.func23, Tryd.ntmps23
  go_wp2_with fail
  go_ret
  exact RetB.int rfl (below_alloc _ _)
set_option maxHeartbeats 400000 in
theorem refRandom_any (p n h c : Int) (w : World) (h1 : 0 ≤ c) (h2 : c ≤ 1048576) (h3 : 1 ≤ n) (h4 : n ≤ 1048576) :
    Calls Tryd.prog 24 #[planV p n h, .int .i64 c] w (RetB (.int .i64 (c * (n - 1))) w) := by
  obtain ⟨b1, b2⟩ := prod_bd h1 h2 h3 h4
  go_enter Tryd.func24, Tryd.ntmps24
  go_wp2_with fail
  go_ret
  exact RetB.int rfl (below_alloc _ _)
end Go.Proofs.YtkjpnhhkebbmdaaDoor
namespace Go.Proofs.YtkjpnhhkebbmdaaDoor
open Go.RowKit

theorem plan_nat {p n h : Int} (H : PlanP p n h) (hv : primeV p = validI p) : ∃ q n' h' : Nat, p = (q : Int) ∧ n = (n' : Int) ∧ h = (h' : Int) ∧ PrimeN q ∧ q ≤ 1073741824 ∧ 1 ≤ n' ∧ n' ≤ h' ∧ h' ≤ 16 ∧ h' < q := by
  obtain ⟨q, rfl, hq, hq2⟩ := plan_prime H hv
  obtain ⟨l1, l2, l3, l4, -⟩ := H
  exact ⟨q, n.toNat, h.toNat, rfl, by omega, by omega, hq, hq2, by omega, by omega, by omega, by omega⟩
theorem part_bd {i k m : Nat} (hi : i < m) : i * k + k ≤ m * k := by
  have := Nat.mul_le_mul_right k (show i + 1 ≤ m by omega)
  rw [Nat.add_mul, Nat.one_mul] at this; exact this
theorem NatsAt.dropAt {w : World} {b off : Nat} {L : List Nat} (h : NatsAt w (some ⟨b, off, none⟩) L) (i : Nat) : NatsAt w (some ⟨b, off + i, none⟩) (L.drop i) := fun k hk => by
  rw [List.length_drop] at hk
  obtain ⟨b', off', e, hb, hc⟩ := h (i + k) (by omega)
  injection e with e; injection e with e1 e2; subst e1; subst e2
  refine ⟨b, off + i, rfl, hb, ?_⟩
  rw [show off + i + k = off + (i + k) by omega, hc]
  simp [nthN, List.getD_eq_getElem?_getD]
theorem nats_take {w : World} {A : Option Addr} {L : List Nat} (h : NatsAt w A L) (k : Nat) : NatsAt w A (L.take k) := h.take k
/-- A part of the random numbers, as a slice. -/
theorem part_at {w : World} {B : Option Addr} {c lo k : Nat} {ran : List Nat} (h : NatsAt w B ran) (hok : IOK B c ran.length) (hlo : lo + k ≤ ran.length) :
    ∃ ad, sliced B lo (lo + k) c 1 = .slice ad ((ran.drop lo).take k).length (c - lo) ∧ NatsAt w ad ((ran.drop lo).take k) ∧ (ad = none → ((ran.drop lo).take k).length = 0 ∧ c - lo = 0) ∧ (((ran.drop lo).take k).length = 0 ∨ ∀ a, ad = some a → a.spot = none) := by
  have hlen : ((ran.drop lo).take k).length = k := by rw [List.length_take, List.length_drop]; omega
  rw [hlen]
  have hcl := hok.len
  rcases Nat.eq_zero_or_pos k with h0 | h0
  · subst h0
    unfold sliced
    refine ⟨if c = lo then B else B.map (·.add (lo * 1)), by simp, by rw [show (ran.drop lo).take 0 = [] from rfl]; exact NatsAt.nil _ _, fun e => ⟨rfl, ?_⟩, .inl rfl⟩
    by_cases hc : c = lo
    · omega
    · rw [if_neg hc] at e
      have : B = none := by cases B with
        | none => rfl
        | some a => cases e
      have := hok.nil this; omega
  · have hne : ¬ c = lo := by omega
    obtain ⟨b, off, rfl, hb, hc⟩ := h lo (by omega)
    unfold sliced
    rw [if_neg hne, Nat.mul_one]
    have hadd : (⟨b, off, none⟩ : Addr).add lo = ⟨b, off + lo, none⟩ := by
      unfold Addr.add; split
      · rename_i h; subst h; rfl
      · rfl
    refine ⟨some ⟨b, off + lo, none⟩, ?_, (h.dropAt lo).take k, (fun e => by cases e), .inr (fun a e => by injection e with e; subst e; rfl)⟩
    simp only [Option.map_some, hadd]
    rw [show lo + k - lo = k by omega]
theorem DlrAt.below {w w' : World} {d base : Nat} {p n h : Int} {T : List ShN} (H : DlrAt w d base p n h T) (hb : Below w.heap.size w w') : DlrAt w' d base p n h T := by
  obtain ⟨h1, h2, v, H', h3, h4⟩ := H
  exact ⟨h1, Nat.le_trans h2 hb.size, v, H', (hb.block d (by omega)).trans h3, h4.below hb⟩

theorem deal_go {wr w6 : World} {d base p k h0 : Nat} {n h : Int} {sec ran : List Nat} {m : Nat} (hD : DlrAt wr d base p n h (dealtT p h0 sec ran k m)) (hb : Below wr.heap.size wr w6) {F : Option Addr} {f : List Nat} (hF : NatsAt w6 F f) (hFb : ∀ b off, F = some ⟨b, off, none⟩ → wr.heap.size ≤ b ∧ b < w6.heap.size) (cf : Nat)
    (hp : 1 ≤ p) (hp2 : p ≤ 2147483648) (hf : ∀ x ∈ f, x < p) (hh : h0 < p) (hh0 : h0 ≤ 1000) (hfl : f.length ≤ 1048576) (hm : m ≤ 1048576) :
    Calls Tryd.prog 46 #[.pointer (some ⟨d, 0, none⟩), .slice F f.length cf] w6
      (fun e w' => e = .returned (.tuple #[]) ∧ DlrAt w' d base p n h (stepT p f (dealtT p h0 sec ran k m) (dealtT p h0 sec ran k m).length) ∧ Below base w6 w') := by
  obtain ⟨h1, h2, v, H, h3, h4⟩ := hD
  refine deal_any d base p n h _ F cf f w6 v H h1 (Nat.le_trans h2 hb.size) ((hb.block d (by omega)).trans h3) (h4.below hb) hF (fun bF off e => ⟨fun i hi b e2 => ?_, fun b e2 => ?_⟩) (fun bF off e => (hFb bF off e).2) hp hp2 hf (fun j hj => ?_) hfl (by rw [dealtT_len]; exact hh0) (fun j hj => ?_)
  · have := (hFb bF off e).1
    have := (World.ownsRow.lt (h4.row i hi) b e2).2
    omega
  · have := (hFb bF off e).1
    have := (World.ownsRow.lt h4.out b e2).2
    omega
  · rw [dealtT_len] at hj
    rw [(dealtT_at hj).1]; omega
  · rw [dealtT_len] at hj
    rw [(dealtT_at hj).2, List.length_map, List.length_range]; exact hm

set_option maxRecDepth 100000 in
set_option maxHeartbeats 4000000 in
theorem dealS_any (p n h : Int) (A B : Option Addr) (ca cb : Nat) (sec ran : List Int) (w : World) (hv : primeV p = validI p) (hB : Bases w) (hA : IntsAt w A sec) (hR : IntsAt w B ran) (hok : IOK B cb ran.length) (hl1 : sec.length ≤ 1048576) (hl2 : ran.length ≤ 1048576) :
    Calls Tryd.prog 20 #[planV p n h, .slice A sec.length ca, .slice B ran.length cb] w (ShErr (shL (dlL p n h sec ran)) (dlE p n h sec ran) w) := by
  have hva := valid_plan p n h (w.alloc (.cells #[.int .i64 p, .int .i64 n, .int .i64 h] 24)) (hB.keep (below_alloc _ _))
  have HA := Lib.hid hA
  have HR := Lib.hid hR
  have HOK := Lib.hid hok
  clear hA hR hok hB
  have HES := Lib.hid (fun (W : World) (hb : Below w.heap.size w W) => elements_plan p n h A sec ca W (HA.out.below hb) (by omega))
  have HER := Lib.hid (fun (W : World) (hb : Below w.heap.size w W) => elements_plan p n h B ran cb W (HR.out.below hb) (by omega))
  cases hp : plB p n h with
  | false =>
    have he := dlE_pl (sec := sec) (ran := ran) hp
    rw [dlL_no (by rw [he]; decide), he]
    rw [hp] at hva
    have HV := Lib.hid hva
    clear hva hp he hv
    go_enter Tryd.func20, Tryd.ntmps20
    go_wp2_with fail
    refine ret_below HV.out ?_
    intro w1 hb1
    go_wp2_with fail
    go_ret2
    exact ShErr.nil _ (below_trans (below_alloc _ _) hb1)
  | true =>
    rw [hp] at hva
    have HV := Lib.hid hva
    by_cases hbig : 2048 < sec.length
    · have he := dlE_big (ran := ran) hp hbig
      rw [dlL_no (by rw [he]; decide), he]
      have t1 : decide (2048 < (sec.length : Int)) = true := decide_eq_true (by omega)
      clear hva hp he hv
      go_enter Tryd.func20, Tryd.ntmps20
      go_wp2_with fail
      refine ret_below HV.out ?_
      intro w1 hb1
      have hbw1 := below_trans (below_alloc _ _) hb1
      have HP := Lib.hid ((PlanCell.new (w := w) p n h rfl).below hb1)
      have p0 := HP.out.c0
      have p1 := HP.out.c1
      have p2 := HP.out.c2
      go_wp2_with fail
      go_ret2
      exact ShErr.nil _ hbw1
    · have t1 : decide (2048 < (sec.length : Int)) = false := decide_eq_false (by omega)
      cases hi1 : inside p sec with
      | false =>
        have he := dlE_bad (sec := sec) (ran := ran) hp hbig (fun H => by rw [hi1] at H; cases H.1)
        rw [dlL_no (by rw [he]; decide), he]
        rw [hi1] at HES
        clear hva hp he hv hi1
        go_enter Tryd.func20, Tryd.ntmps20
        go_wp2_with fail
        refine ret_below HV.out ?_
        intro w1 hb1
        have hbw1 := below_trans (below_alloc _ _) hb1
        have HP := Lib.hid ((PlanCell.new (w := w) p n h rfl).below hb1)
        have p0 := HP.out.c0
        have p1 := HP.out.c1
        have p2 := HP.out.c2
        go_wp2_with fail
        refine ret_below (HES.out _ hbw1) ?_
        intro w2 hb2
        go_wp2_with fail
        go_ret2
        exact ShErr.nil _ (below_trans hbw1 hb2)
      | true =>
        rw [hi1] at HES
        cases hi2 : inside p ran with
        | false =>
          have he := dlE_bad (sec := sec) (ran := ran) hp hbig (fun H => by rw [hi2] at H; cases H.2.1)
          rw [dlL_no (by rw [he]; decide), he]
          rw [hi2] at HER
          clear hva hp he hv hi1 hi2
          go_enter Tryd.func20, Tryd.ntmps20
          go_wp2_with fail
          refine ret_below HV.out ?_
          intro w1 hb1
          have hbw1 := below_trans (below_alloc _ _) hb1
          have HP := Lib.hid ((PlanCell.new (w := w) p n h rfl).below hb1)
          have p0 := HP.out.c0
          have p1 := HP.out.c1
          have p2 := HP.out.c2
          go_wp2_with fail
          refine ret_below (HES.out _ hbw1) ?_
          intro w2 hb2
          have hbw2 := below_trans hbw1 hb2
          have HP2 := Lib.hid (HP.out.below hb2)
          have p02 := HP2.out.c0
          have p12 := HP2.out.c1
          have p22 := HP2.out.c2
          go_wp2_with fail
          refine ret_below (HER.out _ hbw2) ?_
          intro w3 hb3
          go_wp2_with fail
          go_ret2
          exact ShErr.nil _ (below_trans hbw2 hb3)
        | true =>
          rw [hi2] at HER
          obtain ⟨q, n', h', rfl, rfl, rfl, hq, hq2, m1, m2, m3, m4⟩ := plan_nat (of_decide_eq_true hp) hv
          have HRN := Lib.hid (fun (W : World) => random_any q n' h' sec.length W (by omega) (by omega) (by omega) (by omega))
          by_cases hle : (ran.length : Int) = sec.length * ((n' : Int) - 1)
          · have he := dlE_ok (sec := sec) (ran := ran) hp hbig ⟨hi1, hi2, hle⟩
            have t2 : ((ran.length : Int) != (sec.length : Int) * ((n' : Int) - 1)) = false := by simp [hle]
            have hdl : dlL q n' h' sec ran = dealN q n' h' (sec.map Int.toNat) (ran.map Int.toNat) := by
              unfold dlL; rw [if_pos he, Int.toNat_natCast, Int.toNat_natCast, Int.toNat_natCast]
            rw [hdl, he]
            obtain ⟨e1, e2⟩ := inside_nat hi1
            obtain ⟨e3, e4⟩ := inside_nat hi2
            have hs1 : (sec.map Int.toNat).length = sec.length := by simp
            have hs2 : (ran.map Int.toNat).length = ran.length := by simp
            have hAn : NatsAt w A (sec.map Int.toNat) := IntsAt.nats (by rw [e1]; exact HA.out)
            have hRn : NatsAt w B (ran.map Int.toNat) := IntsAt.nats (by rw [e3]; exact HR.out)
            have HAN := Lib.hid hAn
            have HRNA := Lib.hid hRn
            have HSP := Lib.hid e2
            have HRP := Lib.hid e4
            have hd0 : dealN q n' h' (sec.map Int.toNat) (ran.map Int.toNat) = dealtT q h' (sec.map Int.toNat) (ran.map Int.toNat) (n' - 1) sec.length := by unfold dealN; rw [hs1]
            have HD0 := Lib.hid hd0
            by_cases hn1 : n' = 1
            · have hsplit : True := trivial
              obtain ⟨k, hk⟩ : ∃ k, k = n' - 1 := ⟨_, rfl⟩
              have hk00 : k = 0 := by omega
              have hk' : (n' : Int) - 1 = 0 := by omega
              have hle' : ran.length = sec.length * k := by
                have h1 := hle
                rw [hk', Int.mul_zero] at h1
                rw [hk00]; omega
              rw [hk', Int.mul_zero] at t2 HRN
              have HK := Lib.hid hk'
              have HK00 := Lib.hid hk00
              have HLE := Lib.hid hle'
              have HOK2 := Lib.hid (show IOK B cb (ran.map Int.toNat).length by rw [hs2]; exact HOK.out)
              have HS1 := Lib.hid hs1
              have HS2 := Lib.hid hs2
              rw [← hk] at HD0
              clear hn1 hva hp he hv hi1 hi2 hle hdl e1 e3 e2 e4 hAn hRn hd0 hs1 hs2 hle' hk hk00
              generalize sec.map Int.toNat = SN at *
              generalize ran.map Int.toNat = RN at *
              have hp' : True := trivial
              go_enter Tryd.func20, Tryd.ntmps20
              go_wp2_with fail
              refine ret_below HV.out ?_
              intro w1 hb1
              have hbw1 := below_trans (below_alloc _ _) hb1
              have HP := Lib.hid ((PlanCell.new (w := w) q n' h' rfl).below hb1)
              have p0 := HP.out.c0
              have p1 := HP.out.c1
              have p2 := HP.out.c2
              go_wp2_with fail
              refine ret_below (HES.out _ hbw1) ?_
              intro w2 hb2
              have hbw2 := below_trans hbw1 hb2
              have HP2 := Lib.hid (HP.out.below hb2)
              have p02 := HP2.out.c0
              have p12 := HP2.out.c1
              have p22 := HP2.out.c2
              go_wp2_with fail
              refine ret_below (HER.out _ hbw2) ?_
              intro w3 hb3
              have hbw3 := below_trans hbw2 hb3
              have HP3 := Lib.hid (HP2.out.below hb3)
              have p03 := HP3.out.c0
              have p13 := HP3.out.c1
              have p23 := HP3.out.c2
              go_wp2_with fail
              refine ret_below (HRN.out _) ?_
              intro w4 hb4
              have hbw4 := below_trans hbw3 hb4
              have HP4 := Lib.hid (HP3.out.below hb4)
              have p04 := HP4.out.c0
              have p14 := HP4.out.c1
              have p24 := HP4.out.c2
              clear p0 p1 p2 p02 p12 p22 p03 p13 p23
              go_wp2_with fail
              refine (newDealer_any q n' h' _ (by omega)).mono ?_
              rintro e w5 ⟨d, base, rfl, hdw, hD, hb5⟩
              have hbw5 := below_trans hbw4 hb5
              have p15 := (HP4.out.below hb5).c1
              have hzw := hbw4.size
              have HD := Lib.hid hD
              have hdb := hD.1
              clear hD p04 p14 p24
              have HRM := Lib.hid (show ∀ i, i < sec.length → i * k + k ≤ ran.length from fun i hi => by rw [HLE.out]; exact part_bd hi)
              have hcap := HOK.out.len
              have HD1 : Hid (DlrAt w5 d base q n' h' (dealtT q h' SN RN k 0)) := by rw [dealtT_zero]; exact HD.out
              go_wp2_with fail
              go_loopw [47] (fun i wr => ∃ m : Nat, m ≤ sec.length ∧ i = .int .i64 m ∧ DlrAt wr d base q n' h' (dealtT q h' SN RN k m) ∧ Below base w5 wr) (fun i _ => sec.length - (intOf i).toNat)
              case atStart => exact ⟨0, Nat.zero_le _, rfl, HD1.out, Below.refl _ _⟩
              case round =>
                obtain ⟨i, hi, rfl, hDr, hbr⟩ := hrel
                have hbwr : Below w.heap.size w wr := hbw5.trans (hbr.mono (by omega))
                have HDr := Lib.hid hDr
                have hzr := hbr.size
                have hDB : base ≤ wr.heap.size := HDr.out.2.1
                clear hDr p15
                by_cases hlt : i < sec.length
                · obtain ⟨bA, oA, rfl, hbA, hcA⟩ := (HAN.out.below hbwr) i (by rw [HS1.out]; exact hlt)
                  have hrm := HRM.out i hlt
                  have HST := Lib.hid (dealtT_succ q h' SN RN k i)
                  obtain ⟨f, hf⟩ : ∃ f, f = polN SN RN k i := ⟨_, rfl⟩
                  have hfl : f.length ≤ k + 1 := by rw [hf]; exact polN_len
                  have HFP := Lib.hid (show ∀ x ∈ f, x < q by rw [hf]; exact polN_lt (by omega) HSP.out HRP.out k i)
                  rw [← hf] at HST
                  obtain ⟨T, hT⟩ : ∃ T, T = (RN.drop (i * k)).take k := ⟨_, rfl⟩
                  have HPOL : Hid ([nthN SN i] ++ T = f) := by rw [hf, hT]; rfl
                  have hTN : NatsAt wr B RN := HRNA.out.below hbwr
                  have hTl : T.length = 0 := by rw [hT, List.length_take, HK00.out]; omega
                  have HF := Lib.hid hf
                  have HTT := Lib.hid hT
                  have hXn : nthN SN i < q := nthN_lt (by omega) HSP.out i
                  have HDEAL := Lib.hid (fun (w6 : World) (Fa : Option Addr) (fc : Nat) (hb : Below wr.heap.size wr w6) (hF : NatsAt w6 Fa f) (hFb : ∀ b off, Fa = some ⟨b, off, none⟩ → wr.heap.size ≤ b ∧ b < w6.heap.size) => deal_go HDr.out hb hF hFb fc (show 1 ≤ q by omega) (by omega) HFP.out (show h' < q by omega) (by omega) (by have := HK00.out; omega) (by omega))
                  have hT0 : T = [] := List.eq_nil_of_length_eq_zero (by omega)
                  have hcb : B = none → cb = 0 := HOK.out.nil
                  have HCB := Lib.hid hcb
                  subst hT0
                  clear hTN hTl hf hT hcb
                  go_wp2_with (first
                    | (at_builtin; refine app_sl rfl (.tmp 54) (.tmp 63) rfl (base := wr.heap.size) (v := .slice (some ⟨wr.heap.size, 0, none⟩) 1 1) (S := [nthN SN i]) [] B cb rfl ((lit1_nats wr (nthN SN i)).own (Nat.le_refl _) (by unfold maxLen; simp)) rfl (NatsAt.nil _ _) (fun e => ⟨rfl, HCB.out e⟩) (.inl rfl) (by simp) (by simp) ?_; intro v6 w6 hown6 hb6; rw [HPOL.out] at hown6; obtain ⟨Fa, fc, rfl, hFN, hFS, hFb⟩ := own_sl hown6 rfl; have hb6' : Below wr.heap.size wr w6 := (below_of_alloc hb6 (Nat.le_refl _)); have HFN := Lib.hid hFN; have HFB := Lib.hid hFb; clear hFN hFb hown6)
                    | (go_at_call 46; refine (HDEAL.out _ Fa fc hb6' HFN.out HFB.out).mono ?_; rintro e w7 ⟨rfl, hD7, hb7⟩))
                  have HD7 := Lib.hid (And.intro hD7 (hbr.trans ((hb6'.mono hDB).trans hb7)))
                  clear hD7 hb7
                  go_roundw
                  case rel => exact ⟨i + 1, by omega, by go_num, by rw [← HST.out]; exact HD7.out.1, HD7.out.2⟩
                  case measure => simp [intOf]; omega
                · obtain rfl : i = sec.length := by omega
                  obtain ⟨-, -, v, H, hbox, hR2⟩ := HDr.out
                  obtain ⟨X, cx, rfl, hX⟩ := hR2.read
                  obtain ⟨-, c3, -⟩ := dlr_box hbox
                  have hX2 : ShP (fun b => w.heap.size ≤ b) wr X cx (shL (dealN q n' h' SN RN)) := by rw [HD0.out]; exact hX.mono (fun b _ hb => by omega)
                  have hlen : (dealN q n' h' SN RN).length = (dealtT q h' SN RN k sec.length).length := by rw [HD0.out]
                  have HX := Lib.hid (And.intro hX2 hlen)
                  clear hX hX2 hlen hbox hR2
                  go_wp2_with fail
                  go_ret2
                  exact ⟨X, cx, by rw [shL_len, HX.out.2]; rfl, HX.out.1, hbwr⟩
            · have hsplit : True := trivial
              obtain ⟨k, hk⟩ : ∃ k, k = n' - 1 := ⟨_, rfl⟩
              have hk0 : 0 < k := by omega
              have hk' : (n' : Int) - 1 = (k : Int) := by omega
              have hle' : ran.length = sec.length * k := by
                have h1 := hle
                rw [hk'] at h1
                exact Int.ofNat_inj.1 (by push_cast; exact h1)
              rw [hk'] at t2 HRN
              have HK := Lib.hid hk'
              have HLE := Lib.hid hle'
              have HOK2 := Lib.hid (show IOK B cb (ran.map Int.toNat).length by rw [hs2]; exact HOK.out)
              have HS1 := Lib.hid hs1
              have HS2 := Lib.hid hs2
              rw [← hk] at HD0
              clear hn1 hva hp he hv hi1 hi2 hle hdl e1 e3 e2 e4 hAn hRn hd0 hs1 hs2 hle' hk
              generalize sec.map Int.toNat = SN at *
              generalize ran.map Int.toNat = RN at *
              have hp' : True := trivial
              go_enter Tryd.func20, Tryd.ntmps20
              go_wp2_with fail
              refine ret_below HV.out ?_
              intro w1 hb1
              have hbw1 := below_trans (below_alloc _ _) hb1
              have HP := Lib.hid ((PlanCell.new (w := w) q n' h' rfl).below hb1)
              have p0 := HP.out.c0
              have p1 := HP.out.c1
              have p2 := HP.out.c2
              go_wp2_with fail
              refine ret_below (HES.out _ hbw1) ?_
              intro w2 hb2
              have hbw2 := below_trans hbw1 hb2
              have HP2 := Lib.hid (HP.out.below hb2)
              have p02 := HP2.out.c0
              have p12 := HP2.out.c1
              have p22 := HP2.out.c2
              go_wp2_with fail
              refine ret_below (HER.out _ hbw2) ?_
              intro w3 hb3
              have hbw3 := below_trans hbw2 hb3
              have HP3 := Lib.hid (HP2.out.below hb3)
              have p03 := HP3.out.c0
              have p13 := HP3.out.c1
              have p23 := HP3.out.c2
              go_wp2_with fail
              refine ret_below (HRN.out _) ?_
              intro w4 hb4
              have hbw4 := below_trans hbw3 hb4
              have HP4 := Lib.hid (HP3.out.below hb4)
              have p04 := HP4.out.c0
              have p14 := HP4.out.c1
              have p24 := HP4.out.c2
              clear p0 p1 p2 p02 p12 p22 p03 p13 p23
              go_wp2_with fail
              refine (newDealer_any q n' h' _ (by omega)).mono ?_
              rintro e w5 ⟨d, base, rfl, hdw, hD, hb5⟩
              have hbw5 := below_trans hbw4 hb5
              have p15 := (HP4.out.below hb5).c1
              have hzw := hbw4.size
              have HD := Lib.hid hD
              have hdb := hD.1
              clear hD p04 p14 p24
              have HRM := Lib.hid (show ∀ i, i < sec.length → i * k + k ≤ ran.length from fun i hi => by rw [HLE.out]; exact part_bd hi)
              have hcap := HOK.out.len
              have HD1 : Hid (DlrAt w5 d base q n' h' (dealtT q h' SN RN k 0)) := by rw [dealtT_zero]; exact HD.out
              go_wp2_with fail
              go_loopw [47] (fun i wr => ∃ m : Nat, m ≤ sec.length ∧ i = .int .i64 m ∧ DlrAt wr d base q n' h' (dealtT q h' SN RN k m) ∧ Below base w5 wr) (fun i _ => sec.length - (intOf i).toNat)
              case atStart => exact ⟨0, Nat.zero_le _, rfl, HD1.out, Below.refl _ _⟩
              case round =>
                obtain ⟨i, hi, rfl, hDr, hbr⟩ := hrel
                have hbwr : Below w.heap.size w wr := hbw5.trans (hbr.mono (by omega))
                have HDr := Lib.hid hDr
                have hzr := hbr.size
                have hDB : base ≤ wr.heap.size := HDr.out.2.1
                clear hDr p15
                by_cases hlt : i < sec.length
                · obtain ⟨bA, oA, rfl, hbA, hcA⟩ := (HAN.out.below hbwr) i (by rw [HS1.out]; exact hlt)
                  have hrm := HRM.out i hlt
                  have HST := Lib.hid (dealtT_succ q h' SN RN k i)
                  obtain ⟨f, hf⟩ : ∃ f, f = polN SN RN k i := ⟨_, rfl⟩
                  have hfl : f.length ≤ k + 1 := by rw [hf]; exact polN_len
                  have HFP := Lib.hid (show ∀ x ∈ f, x < q by rw [hf]; exact polN_lt (by omega) HSP.out HRP.out k i)
                  rw [← hf] at HST
                  obtain ⟨T, hT⟩ : ∃ T, T = (RN.drop (i * k)).take k := ⟨_, rfl⟩
                  have HPOL : Hid ([nthN SN i] ++ T = f) := by rw [hf, hT]; rfl
                  have hTN : NatsAt wr B RN := HRNA.out.below hbwr
                  have hTl : T.length = k := by rw [hT, List.length_take, List.length_drop, HS2.out]; omega
                  have HF := Lib.hid hf
                  have HTT := Lib.hid hT
                  have hXn : nthN SN i < q := nthN_lt (by omega) HSP.out i
                  have HDEAL := Lib.hid (fun (w6 : World) (Fa : Option Addr) (fc : Nat) (hb : Below wr.heap.size wr w6) (hF : NatsAt w6 Fa f) (hFb : ∀ b off, Fa = some ⟨b, off, none⟩ → wr.heap.size ≤ b ∧ b < w6.heap.size) => deal_go HDr.out hb hF hFb fc (show 1 ≤ q by omega) (by omega) HFP.out (show h' < q by omega) (by omega) (by omega) (by omega))
                  obtain ⟨lo, hlo⟩ : ∃ lo, lo = i * k := ⟨_, rfl⟩
                  have e1 : (i : Int) * (k : Int) = (lo : Int) := by rw [hlo]; push_cast; rfl
                  have b1 : (0 : Int) ≤ (i : Int) * (k : Int) := by rw [e1]; omega
                  have b2 : (i : Int) * (k : Int) ≤ 1048576 := by rw [e1]; omega
                  rw [← hlo] at hrm
                  obtain ⟨bB, oB, rfl, hbB, -⟩ := hTN lo (by rw [HS2.out]; omega)
                  have hne : ¬ cb = lo := by omega
                  obtain ⟨hi', hh'⟩ : ∃ x, x = lo + k := ⟨_, rfl⟩
                  have e2 : ((i : Int) + 1) * (k : Int) = (hi' : Int) := by rw [Int.add_mul, e1, Int.one_mul]; omega
                  have b3 : (0 : Int) ≤ ((i : Int) + 1) * (k : Int) := by rw [e2]; omega
                  have b4 : ((i : Int) + 1) * (k : Int) ≤ 1048576 := by rw [e2]; omega
                  have HTL := Lib.hid (show T.length = hi' - lo by omega)
                  have hTn : NatsAt wr (some ⟨bB, oB + lo, none⟩) T := by rw [hT, ← hlo]; exact (hTN.dropAt lo).take k
                  have HTN := Lib.hid hTn
                  have c1 : (lo : Int) ≤ (hi' : Int) := by omega
                  have c2 : (hi' : Int) ≤ (cb : Int) := by omega
                  have c3 : (lo : Int) ≤ (cb : Int) := by omega
                  have c4 : (0 : Int) ≤ (lo : Int) := by omega
                  have c5 : T.length ≤ 1048576 := by omega
                  clear hlo hTN hTl hf hT hTn hh'
                  go_wp2_with (first
                    | (at_builtin; refine app_sl rfl (.tmp 54) (.tmp 63) rfl (base := wr.heap.size) (v := .slice (some ⟨wr.heap.size, 0, none⟩) 1 1) (S := [nthN SN i]) T (some ⟨bB, oB + lo, none⟩) (cb - lo) rfl ((lit1_nats wr (nthN SN i)).own (Nat.le_refl _) (by unfold maxLen; simp)) (by rw [HTL.out]; rfl) (HTN.out.alloc _) (fun e => by cases e) (.inr (fun a e => by injection e with e; subst e; rfl)) (by simp; omega) (by simp) ?_; intro v6 w6 hown6 hb6; rw [HPOL.out] at hown6; obtain ⟨Fa, fc, rfl, hFN, hFS, hFb⟩ := own_sl hown6 rfl; have hb6' : Below wr.heap.size wr w6 := (below_of_alloc hb6 (Nat.le_refl _)); have HFN := Lib.hid hFN; have HFB := Lib.hid hFb; clear hFN hFb hown6)
                    | (go_at_call 46; refine (HDEAL.out _ Fa fc hb6' HFN.out HFB.out).mono ?_; rintro e w7 ⟨rfl, hD7, hb7⟩))
                  have HD7 := Lib.hid (And.intro hD7 (hbr.trans ((hb6'.mono hDB).trans hb7)))
                  clear hD7 hb7
                  go_roundw
                  case rel => exact ⟨i + 1, by omega, by go_num, by rw [← HST.out]; exact HD7.out.1, HD7.out.2⟩
                  case measure => simp [intOf]; omega
                · obtain rfl : i = sec.length := by omega
                  obtain ⟨-, -, v, H, hbox, hR2⟩ := HDr.out
                  obtain ⟨X, cx, rfl, hX⟩ := hR2.read
                  obtain ⟨-, c3, -⟩ := dlr_box hbox
                  have hX2 : ShP (fun b => w.heap.size ≤ b) wr X cx (shL (dealN q n' h' SN RN)) := by rw [HD0.out]; exact hX.mono (fun b _ hb => by omega)
                  have hlen : (dealN q n' h' SN RN).length = (dealtT q h' SN RN k sec.length).length := by rw [HD0.out]
                  have HX := Lib.hid (And.intro hX2 hlen)
                  clear hX hX2 hlen hbox hR2
                  go_wp2_with fail
                  go_ret2
                  exact ⟨X, cx, by rw [shL_len, HX.out.2]; rfl, HX.out.1, hbwr⟩
          · have he := dlE_bad (sec := sec) (ran := ran) hp hbig (fun H => hle H.2.2)
            rw [dlL_no (by rw [he]; decide), he]
            have t2 : ((ran.length : Int) != (sec.length : Int) * ((n' : Int) - 1)) = true := by simp [hle]
            clear hva hp he hv hi1 hi2 hle
            go_enter Tryd.func20, Tryd.ntmps20
            go_wp2_with fail
            refine ret_below HV.out ?_
            intro w1 hb1
            have hbw1 := below_trans (below_alloc _ _) hb1
            have HP := Lib.hid ((PlanCell.new (w := w) q n' h' rfl).below hb1)
            have p0 := HP.out.c0
            have p1 := HP.out.c1
            have p2 := HP.out.c2
            go_wp2_with fail
            refine ret_below (HES.out _ hbw1) ?_
            intro w2 hb2
            have hbw2 := below_trans hbw1 hb2
            have HP2 := Lib.hid (HP.out.below hb2)
            have p02 := HP2.out.c0
            have p12 := HP2.out.c1
            have p22 := HP2.out.c2
            go_wp2_with fail
            refine ret_below (HER.out _ hbw2) ?_
            intro w3 hb3
            have hbw3 := below_trans hbw2 hb3
            have HP3 := Lib.hid (HP2.out.below hb3)
            have p03 := HP3.out.c0
            have p13 := HP3.out.c1
            have p23 := HP3.out.c2
            go_wp2_with fail
            refine ret_below (HRN.out _) ?_
            intro w4 hb4
            go_wp2_with fail
            go_ret2
            exact ShErr.nil _ (below_trans hbw3 hb4)
end Go.Proofs.YtkjpnhhkebbmdaaDoor
namespace Go.Proofs.YtkjpnhhkebbmdaaDoor
open Go.RowKit

abbrev valsI (L : List Int) : List Value := L.map (Value.int .i64)
theorem valsI_one (L : List Int) : ∀ u ∈ valsI L, u.oneCell' = true := by
  intro u hu
  obtain ⟨x, -, rfl⟩ := List.mem_map.1 hu; rfl
theorem IntsAt.news {w : World} {a : Addr} {L : List Int} (h : IntsAt w (some a) L) (hs : L.length = 0 ∨ a.spot = none) : ∀ j u, (valsI L)[j]? = some u → w.cell? (a.add j) = some u := fun j u hu => by
  have hj : j < L.length := by
    rcases Nat.lt_or_ge j L.length with h1 | h1
    · exact h1
    · rw [List.getElem?_eq_none (by simp [valsI]; omega)] at hu; cases hu
  obtain ⟨b, off, hA, hb, hc⟩ := h j hj
  injection hA with hA
  subst hA
  have e : (⟨b, off, none⟩ : Addr).add j = ⟨b, off + j, none⟩ := by
    unfold Addr.add; split
    · rename_i h; subst h; rfl
    · rfl
  rw [e, hc, ← hu]
  simp [valsI, hj, nth_eq hj]
theorem own_ints {w : World} {base : Nat} {v : Value} {L : List Int} {n : Nat} (h : w.ownsRow base 3 1 v n (valsI L)) (hn : n = L.length) :
    ∃ A c, v = .slice A L.length c ∧ IntsAt w A L ∧ IOK A c L.length ∧ ∀ b off, A = some ⟨b, off, none⟩ → base ≤ b ∧ b < w.heap.size := by
  subst hn
  have hlt := World.ownsRow.lt h
  rcases h.2 with ⟨rfl, h0⟩ | ⟨g, cap, cur, rfl, hg, hh, hnc, hcm, hcs, htk⟩
  · have : L = [] := List.eq_nil_of_length_eq_zero h0
    subst this
    exact ⟨none, 0, rfl, IntsAt.nil _ _, IOK.none0, fun b off e => by cases e⟩
  · refine ⟨some ⟨g, 0, none⟩, cap, rfl, fun k hk => ⟨g, 0, rfl, (hlt g rfl).2, ?_⟩, ⟨hnc, hcm, (fun e => by cases e), .inr (fun a e => by injection e with e; subst e; rfl)⟩, fun b off e => by injection e with e; injection e with e1; subst e1; exact hlt g rfl⟩
    have := World.ownsRow.cellAt h (j := k) (by omega)
    rw [Nat.zero_add, this, List.getElem?_map, nth_eq hk, List.getElem?_eq_getElem hk]
    rfl
/-- append of a slice of numbers onto nil, in a region that draws. -/
theorem step_app_ints {ops : Array Oper} {o : Oper} {a : Act} {K : Act → World → Prop} {Q : Exit → Act → World → Prop} {E : Prop} (W : World) (hgd : o.guard = none) (s x : Operand)
    (ho : o.op = .call { callee := .builtin .append, args := #[s, x], argTypes := #[22, 22] })
    (L : List Int) (B : Option Addr) (c : Nat) (hs : a.eval s = .slice none 0 0) (hx : a.eval x = .slice B L.length c) (hI : IntsAt W B L) (hok : IOK B c L.length) (hl : L.length ≤ 4294967296)
    (h : ∀ A' c' w', w'.ownsRow W.heap.size 3 1 (.slice A' L.length c') L.length (valsI L) → Below W.heap.size W w' → K (a.put o.dst (.slice A' L.length c')) w') :
    if Region.wanted o (yielded ops a.tmps) = true then Oper.wp Tryd.prog o a W K Q else E := by
  have hw : Region.wanted o (yielded ops a.tmps) = true := by simp [Region.wanted, hgd]
  rw [if_pos hw]
  obtain ⟨i0, hi, hz0, hz1, hz2⟩ := info_parts info_int
  rcases B with _ | ad
  · have hc0 := hok.nil rfl
    subst hc0
    have hL0 : L.length = 0 := by have := hok.len; omega
    have hL : L = [] := List.eq_nil_of_length_eq_zero hL0
    subst hL
    have hrun := run_append_owned_none (P := Tryd.prog) (w := W) W.heap.size 22 o.type 3 i0 1 Tryd.underlying22 hi (.slice none 0 0) 0 [] (World.ownsRow_nil _ _ _ _)
    unfold Oper.wp
    simp [execOp, ho, resolve, invoke, builtin, hs, hx, hrun, Result.andThen]
    exact h none 0 W (World.ownsRow_nil _ _ _ _) (Below.refl _ _)
  · have hsp : L.length = 0 ∨ ad.spot = none := hok.spot.elim .inl (fun g => .inr (g ad rfl))
    obtain ⟨v', w', hr, h2, h3, h4, h5⟩ := run_append_own_at (P := Tryd.prog) W W.heap.size 22 o.type 3 i0 _ 1 8 Tryd.underlying22 hi hz0 hz1 hz2 rfl (by omega) (.slice none 0 0) 0 [] (World.ownsRow_nil _ _ _ _) ad L.length c (valsI L) (by simp [valsI]) (hI.news hsp) (valsI_one L) (by unfold maxLen; omega) (by omega) (Nat.le_refl _)
    rw [Nat.zero_add, List.nil_append] at h2
    have hB : Below W.heap.size W w' := ⟨h3.os, h3.tape, h3.output, h3.size, fun k hk => h3.block k hk (by simp [Value.ownBlock])⟩
    obtain ⟨A', c', rfl, -⟩ := own_ints h2 rfl
    unfold Oper.wp execOp
    simp only [ho, resolve, invoke, builtin, Sem.run_bind, Sem.run_pure, Result.andThen_ok, List.map_toArray, List.map_cons, List.map_nil, hs, hx, hr]
    exact h A' c' w' h2 hB

/-! ### Rows of shares of the own, of any numbers -/
structure RowsI (w : World) (base : Nat) (v : Value) (H : List HV) (S : List Shr) : Prop where
  out : HvOwn w base v H
  len : H.length = S.length
  hold : ∀ k, k < S.length → (hvAt H k).1 = hS S k
  row : ∀ k, k < S.length → w.ownsRow base 3 1 (hvAt H k).2 (vS S k).length (valsI (vS S k))
  ne : ∀ i j, i < S.length → j < S.length → i ≠ j → ∀ b, (hvAt H i).2.ownBlock = some b → (hvAt H j).2.ownBlock = some b → False
  no : ∀ i, i < S.length → ∀ b, (hvAt H i).2.ownBlock = some b → v.ownBlock = some b → False
theorem RowsI.below {w w' : World} {base : Nat} {v : Value} {H : List HV} {S : List Shr} (h : RowsI w base v H S) (hb : Below w.heap.size w w') : RowsI w' base v H S :=
  ⟨h.out.below hb, h.len, h.hold, fun k hk => own_below (h.row k hk) hb, h.ne, h.no⟩
theorem RowsI.read {w : World} {base : Nat} {v : Value} {H : List HV} {S : List Shr} (h : RowsI w base v H S) : ∃ A c, v = .slice A S.length c ∧ ShP (fun b => base ≤ b) w A c S := by
  rcases Nat.eq_zero_or_pos S.length with h0 | h0
  · have : S = [] := List.eq_nil_of_length_eq_zero h0
    subst this
    have hH : H = [] := List.eq_nil_of_length_eq_zero h.len
    have ho := h.out
    subst hH
    rcases ho.2 with ⟨rfl, -⟩ | ⟨g, cap, cur, rfl, hg, hh, hnc, hcm, hcs, htk⟩
    · exact ⟨none, 0, rfl, ShP.nil _ _⟩
    · exact ⟨_, cap, rfl, fun k hk => absurd hk (by simp), ⟨Nat.zero_le _, hcm, (fun e => by cases e), .inl rfl⟩⟩
  · obtain ⟨g, c, rfl, hg, hbg, hlc, hcm, hcell, -⟩ := h.out.form (by rw [h.len]; exact h0)
    refine ⟨some ⟨g, 0, none⟩, c, by rw [h.len], fun k hk => ?_, ⟨by rw [← h.len]; exact hlc, hcm, (fun e => by cases e), .inr (fun a e => by injection e with e; subst e; rfl)⟩⟩
    obtain ⟨c1, c2⟩ := hcell k (by rw [h.len]; exact hk)
    obtain ⟨B, c', hv, hN, hS', hb⟩ := own_ints (h.row k hk) rfl
    refine ⟨g, 0, B, c', rfl, hg, hbg, ?_, ?_, ?_⟩
    · rw [Nat.zero_add, c1, h.hold k hk]
    · rw [Nat.zero_add, c2, hv]
    · exact ⟨hN, hS', fun b off e => .inr (hb b off e).1⟩
theorem hS_append {S K : List Shr} {k : Nat} (h : k < S.length) : hS (S ++ K) k = hS S k ∧ vS (S ++ K) k = vS S k := by simp [hS, vS, List.getD_eq_getElem?_getD, List.getElem?_append_left h]
theorem hS_last {S : List Shr} {y : Shr} : hS (S ++ [y]) S.length = y.1 ∧ vS (S ++ [y]) S.length = y.2 := by simp [hS, vS, List.getD_eq_getElem?_getD]
/-- One share more, its values a row made for it. -/
theorem RowsI.more {w w1 w' : World} {base : Nat} {v v' u : Value} {H : List HV} {S : List Shr} (h : RowsI w base v H S) (hb1 : Below w.heap.size w w1) (x : Int) (L : List Int) (hu : w1.ownsRow w.heap.size 3 1 u L.length (valsI L)) (hbs : base ≤ w.heap.size)
    (hown : HvOwn w' base v' (H ++ [(x, u)])) (hg : w1.grownBy w' v.ownBlock) (hv : v'.ownBlock = v.ownBlock ∨ ∀ b, v'.ownBlock = some b → w1.heap.size ≤ b) : RowsI w' base v' (H ++ [(x, u)]) (S ++ [(x, L)]) := by
  have hl := h.len
  have h1 := h.below hb1
  have hcase : ∀ k, k < (S ++ [(x, L)]).length → k < S.length ∨ k = S.length := fun k hk => by simp at hk; omega
  have hub : ∀ b, u.ownBlock = some b → w.heap.size ≤ b ∧ b < w1.heap.size := fun b e => World.ownsRow.lt hu b e
  refine ⟨hown, by simp [hl], fun k hk => ?_, fun k hk => ?_, fun i j hi hj hij b e1 e2 => ?_, fun i hi b e1 e2 => ?_⟩
  · rcases hcase k hk with hk | rfl
    · rw [hvAt_append (by omega), (hS_append hk).1]; exact h.hold k hk
    · rw [← hl, hvAt_last, hl, hS_last.1]
  · rcases hcase k hk with hk | rfl
    · rw [hvAt_append (by omega), (hS_append hk).2]
      refine World.ownsRow.kept (h1.row k hk) hg ?_
      rcases he : (hvAt H k).2.ownBlock with _ | b
      · exact .inl rfl
      · exact .inr (fun e => h.no k hk b he e.symm)
    · rw [← hl, hvAt_last, hl, hS_last.2]
      refine ownsRow_mono (World.ownsRow.kept hu hg ?_) hbs
      rcases he : u.ownBlock with _ | b
      · exact .inl rfl
      · exact .inr (fun e => by have := (World.ownsRow.lt h.out b e.symm).2; have := hub b he; omega)
  · rcases hcase i hi with hi | rfl
    · rcases hcase j hj with hj | rfl
      · rw [hvAt_append (by omega)] at e1 e2; exact h.ne i j hi hj hij b e1 e2
      · rw [hvAt_append (by omega)] at e1
        rw [← hl, hvAt_last] at e2
        have := (World.ownsRow.lt (h.row i hi) b e1).2; have := hub b e2; omega
    · rcases hcase j hj with hj | rfl
      · rw [hvAt_append (by omega)] at e2
        rw [← hl, hvAt_last] at e1
        have := (World.ownsRow.lt (h.row j hj) b e2).2; have := hub b e1; omega
      · exact hij rfl
  · rcases hcase i hi with hi | rfl
    · rw [hvAt_append (by omega)] at e1
      rcases hv with e | e
      · exact h.no i hi b e1 (e ▸ e2)
      · have := (World.ownsRow.lt (h1.row i hi) b e1).2
        have := e b e2; omega
    · rw [← hl, hvAt_last] at e1
      have h3 := hub b e1
      rcases hv with e | e
      · have := (World.ownsRow.lt h.out b (e ▸ e2)).2; omega
      · have := e b e2; omega
/-- append of one share onto a row of the own, in a region that draws. -/
theorem step_app_hv {ops : Array Oper} {o : Oper} {a : Act} {K : Act → World → Prop} {Q : Exit → Act → World → Prop} {E : Prop} (W : World) (hgd : o.guard = none) (s x : Operand)
    (ho : o.op = .call { callee := .builtin .append, args := #[s, x], argTypes := #[37, 37] })
    (w5 : World) (base : Nat) (v : Value) (H : List HV) (y : Int) (u : Value) (hs : a.eval s = v) (hx : a.eval x = .slice (some ⟨w5.heap.size, 0, none⟩) 1 1)
    (hW : W.heap = (w5.alloc (.cells #[.int .i64 y, u] 47)).heap ∧ W.os = w5.os ∧ W.tape = w5.tape ∧ W.output = w5.output) (hu : isSl u = true)
    (hown : HvOwn w5 base v H) (hl : H.length ≤ 1048576) (hbase : base ≤ w5.heap.size)
    (h : ∀ g cap w', HvOwn w' base (.slice (some ⟨g, 0, none⟩) (H.length + 1) cap) (H ++ [(y, u)]) → w5.grownBy w' v.ownBlock → (v.ownBlock = some g ∨ w5.heap.size ≤ g) → Below base w5 w' → K (a.put o.dst (.slice (some ⟨g, 0, none⟩) (H.length + 1) cap)) w') :
    if Region.wanted o (yielded ops a.tmps) = true then Oper.wp Tryd.prog o a W K Q else E := by
  obtain ⟨i0, hi, hz0, hz1, hz2⟩ := info_parts info_share
  have hbW : Below w5.heap.size w5 W := ⟨hW.2.1, hW.2.2.1, hW.2.2.2, by rw [hW.1]; simp, fun k hk => by rw [hW.1]; exact heap_alloc_old w5 _ hk⟩
  have hsz : W.heap.size = w5.heap.size + 1 := by rw [hW.1]; simp
  have hg : W.heap[w5.heap.size]? = some (.cells #[.int .i64 y, u] 47 (0, 0)) := by rw [hW.1]; exact heap_alloc_new w5 _
  refine step_append_lies _ hgd s x 37 ho base 47 i0 _ 2 32 Tryd.underlying37 hi hz0 hz1 hz2 rfl (by omega) v H.length (flatH H) hs (hown.below hbW) ⟨w5.heap.size, 0, none⟩ 1 1 (flatH [(y, u)]) hx (flatH_len [(y, u)]) (fun j z hz => ?_) (flatH_one [(y, u)] (fun k hk => ?_)) (by omega) (by unfold maxLen; omega) (by omega) (by omega) _ rfl ?_
  · have hj : j < 2 := by
      rcases Nat.lt_or_ge j 2 with h1 | h1
      · exact h1
      · rw [List.getElem?_eq_none (by rw [flatH_len]; simp; omega)] at hz; cases hz
    have : j = 0 ∨ j = 1 := by omega
    rcases this with rfl | rfl
    · rw [show (⟨w5.heap.size, 0, none⟩ : Addr).add 0 = ⟨w5.heap.size, 0, none⟩ from rfl, cell_of_row W w5.heap.size 0 _ _ (0, 0) hg, ← hz]; rfl
    · rw [show (⟨w5.heap.size, 0, none⟩ : Addr).add 1 = ⟨w5.heap.size, 1, none⟩ from rfl, cell_of_row W w5.heap.size 1 _ _ (0, 0) hg, ← hz]; rfl
  · have : k = 0 := by simp at hk; omega
    subst this; exact hu
  · intro g cap w' ho' hgr hat _
    have hg5 : w5.grownBy w' v.ownBlock := ⟨hgr.os.trans hbW.os, hgr.tape.trans hbW.tape, hgr.output.trans hbW.output, Nat.le_trans hbW.size hgr.size, fun k hk hne => (hgr.block k (by omega) hne).trans (hbW.block k hk)⟩
    refine h g cap w' ?_ hg5 (hat.elim .inl (fun e => .inr (by omega))) ((Below.refl _ _).grown hg5 hbase (fun k hk => (World.ownsRow.lt hown k hk).1))
    unfold HvOwn; rw [List.length_append, flatH_append]; exact ho'
theorem hSv_take {S : List Shr} {k : Nat} (h : k < S.length) : S.take (k + 1) = S.take k ++ [(hS S k, vS S k)] := by
  rw [List.take_succ_eq_append_getElem h]
  congr 1
  simp [hS, vS, List.getD_eq_getElem?_getD, h]
/-- The call returns a copy: rows of the own. -/
def CopyP (S : List Shr) (w : World) (e : Ending) (w' : World) : Prop := ∃ v H, e = .returned v ∧ RowsI w' w.heap.size v H S ∧ Below w.heap.size w w'

set_option maxRecDepth 100000 in
set_option maxHeartbeats 4000000 in
theorem copy_any {P : Nat → Prop} (A : Option Addr) (c : Nat) (S : List Shr) (w : World) (hS : ShP P w A c S) (hsh : Short S) (hl : S.length ≤ 1000000) :
    Calls Tryd.prog 49 #[.slice A S.length c] w (CopyP S w) := by
  have HS := Lib.hid hS
  have HSH := Lib.hid hsh
  clear hS hsh
  go_enter Tryd.func49, Tryd.ntmps49
  go_wp2_with fail
  go_loopw [3, 8] (fun o i wr => ∃ (k : Nat) (H : List HV), k ≤ S.length ∧ i = .int .i64 k ∧ RowsI wr w.heap.size o H (S.take k) ∧ Below w.heap.size w wr) (fun _ i _ => S.length - (intOf i).toNat)
  case atStart => exact ⟨0, [], Nat.zero_le _, rfl, ⟨HvOwn.nil _ _, rfl, fun k hk => absurd hk (by simp), fun k hk => absurd hk (by simp), fun i j hi => absurd hi (by simp), fun i hi => absurd hi (by simp)⟩, Below.refl _ _⟩
  case round =>
    obtain ⟨k, H, hk, rfl, hR, hbr⟩ := hrel
    have hlk : (S.take k).length = k := by rw [List.length_take]; omega
    obtain ⟨OA, oc, hv, -⟩ := hR.read
    rw [hlk] at hv
    subst hv
    have HLK := Lib.hid hlk
    clear hlk
    have hsz := hbr.size
    have hHl : H.length ≤ 1000000 := by rw [hR.len, List.length_take]; omega
    have HR := Lib.hid hR
    by_cases hlt : k < S.length
    · obtain ⟨b, off, B, c1, rfl, hb, -, h1, h2, h3⟩ := (HS.out.below hbr).at_ k hlt
      have HI := Lib.hid h3
      have hvl := HSH.out k hlt
      have HTK := Lib.hid (hSv_take hlt)
      have hlt' : k = H.length := HLK.out.symm.trans HR.out.len.symm
      generalize hS S k = x at *
      generalize vS S k = L at *
      have HTL := Lib.hid hlt'
      clear h3 hR hlt'
      go_wp2_with fail
      refine gen_world fun w1 hw1 => ?_
      have hb1 : Below wr.heap.size wr w1 := by rw [hw1]; exact below_alloc _ _
      have hsc : ShCell w1 wr.heap.size x (.slice B L.length c1) := by rw [hw1]; exact ShCell.new _ _ rfl
      have s0 := hsc.c0
      have s1 := hsc.c1
      have ls := blk_lt hsc
      have hz1 := hb1.size
      have HI1 := Lib.hid (HI.out.keep (Kept.below hb1))
      clear hw1 hsc h1 h2
      go_region_held3 (fun w' => w'.cell? ⟨wr.heap.size, 0, none⟩ = some (.int .i64 x) ∧ w'.cell? ⟨wr.heap.size, 1, none⟩ = some (.slice B L.length c1)) (first | go_keep | exact ⟨n60, n61⟩)
        (first
          | (refine step_app_ints _ rfl (.const (.slice none 0 0)) (.tmp 16) rfl L B c1 rfl rfl (by exact HI1.out.ints) HI1.out.ok (by omega) ?_; intro VA vc w4 hown4 hb4; have hb4' : Below w1.heap.size w1 w4 := (below_undrew1 hb4); have n40 := (hb4'.cell (p := ⟨wr.heap.size, 0, none⟩) ls).trans s0; have n41 := (hb4'.cell (p := ⟨wr.heap.size, 1, none⟩) ls).trans s1; have l4 : wr.heap.size < w4.heap.size := (Nat.lt_of_lt_of_le ls hb4'.size))
          | (refine step_app_hv _ rfl (.tmp 12) (.tmp 19) rfl w4 w.heap.size (.slice OA k oc) H x (.slice VA L.length vc) rfl rfl ⟨rfl, rfl, rfl, rfl⟩ rfl (HR.out.out.below (below_trans hb1 hb4')) (by omega) (by omega) ?_; intro g6 c6 w6 hown6 hg6 hat6 hb6; have n60 : w6.cell? ⟨wr.heap.size, 0, none⟩ = some (.int .i64 x) := (World.cell?_of_block (w := w4) (hg6.block wr.heap.size l4 (fun e => by have := (World.ownsRow.lt HR.out.out _ e.symm).2; omega))).trans n40; have n61 : w6.cell? ⟨wr.heap.size, 1, none⟩ = some (.slice B L.length c1) := (World.cell?_of_block (w := w4) (hg6.block wr.heap.size l4 (fun e => by have := (World.ownsRow.lt HR.out.out _ e.symm).2; omega))).trans n41))
      all_goals
        have HM := Lib.hid (HR.out.more (below_trans hb1 hb4') x L (ownsRow_mono hown4 (by simp [drew_size]; exact hz1)) hsz hown6 hg6 (hat6.elim (fun e => .inl e.symm) (fun e => .inr (fun b e2 => by have : g6 = b := Option.some.inj (show some g6 = some b from e2); omega))))
        have HB := Lib.hid (hbr.trans (((below_trans hb1 hb4').mono hsz).trans hb6))
        clear hown4 hown6 hg6 hat6
        go_wp2_with fail
        go_roundw
        case rel => exact ⟨k + 1, _, by omega, by go_num, by rw [HTK.out]; exact HM.out, HB.out⟩
        case measure => simp [intOf]; omega
    · obtain rfl : k = S.length := by omega
      rw [List.take_length] at HR
      clear hR
      go_wp2_with fail
      go_ret
      exact ⟨_, _, rfl, HR.out, hbr⟩
end Go.Proofs.YtkjpnhhkebbmdaaDoor
