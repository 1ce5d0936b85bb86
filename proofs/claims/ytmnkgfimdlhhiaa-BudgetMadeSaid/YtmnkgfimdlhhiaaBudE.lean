/-
  Budgets: slices of spends that a call made itself; Clone, Copy.
-/
import Derived.Test.YtmnkgfimdlhhiaaBudD
namespace Go.Proofs.Ytmnkgfimdlhhiaa
open Go.RowKit

def flat : List Spd → List Value
  | [] => []
  | x :: S => .int .i64 x.1 :: .int .i64 x.2 :: flat S
theorem flat_len : ∀ S : List Spd, (flat S).length = S.length * 2
  | [] => rfl
  | x :: S => by simp [flat, flat_len S]; omega
theorem flat_append : ∀ S T : List Spd, flat (S ++ T) = flat S ++ flat T
  | [], T => rfl
  | x :: S, T => by simp [flat, flat_append S T]
theorem flat_at : ∀ (S : List Spd) (k : Nat), k < S.length → (flat S)[k * 2]? = some (.int .i64 (tS S k)) ∧ (flat S)[k * 2 + 1]? = some (.int .i64 (cS S k))
  | [], k, h => absurd h (by simp)
  | x :: S, 0, _ => by simp [flat, tS, cS]
  | x :: S, k + 1, h => by
    have ih := flat_at S k (by simpa using h)
    rw [show (k + 1) * 2 = k * 2 + 1 + 1 by omega]
    simp only [flat, List.getElem?_cons_succ]
    exact ih
theorem flat_one (S : List Spd) : ∀ u ∈ flat S, u.oneCell' = true := by
  induction S with
  | nil => intro u h; cases h
  | cons x S ih =>
    intro u h
    simp only [flat, List.mem_cons] at h
    rcases h with rfl | rfl | h
    · rfl
    · rfl
    · exact ih u h
/-- The call's own slice of spends. -/
def SpOwn (w : World) (base : Nat) (v : Value) (S : List Spd) : Prop := w.ownsRow base 33 2 v S.length (flat S)
theorem SpOwn.at_ {w : World} {base : Nat} {v : Value} {S : List Spd} (h : SpOwn w base v S) : ∃ A c, v = .slice A S.length c ∧ SpAt w A S ∧ (A = none → c = 0) ∧ ∀ b off, A = some ⟨b, off, none⟩ → base ≤ b ∧ b < w.heap.size := by
  rcases h.2 with ⟨rfl, h0⟩ | ⟨g, cap, cur, rfl, hg, hh, hnc, hcm, hcs, htk⟩
  · have : S = [] := List.eq_nil_of_length_eq_zero h0
    subst this
    exact ⟨none, 0, rfl, SpAt.nil _ _, fun _ => rfl, fun b off e => (by cases e)⟩
  · have hlt : g < w.heap.size := blk_lt hh
    refine ⟨some ⟨g, 0, none⟩, cap, rfl, fun k hk => ?_, fun e => (by cases e), fun b off e => (by injection e with e; injection e with e1 e2; subst e1; exact ⟨hg, hlt⟩)⟩
    obtain ⟨f1, f2⟩ := flat_at S k hk
    refine ⟨g, 0, rfl, hlt, ?_, ?_⟩
    · rw [Nat.zero_add, h.cellAt (j := k * 2) (by omega)]; exact f1
    · rw [Nat.zero_add, h.cellAt (j := k * 2 + 1) (by omega)]; exact f2
theorem SpOwn.below {w w' : World} {base : Nat} {v : Value} {S : List Spd} (h : SpOwn w base v S) (hb : Below w.heap.size w w') : SpOwn w' base v S := own_below h hb
theorem SpOwn.mono {w : World} {base base' : Nat} {v : Value} {S : List Spd} (h : SpOwn w base v S) (hb : base' ≤ base) : SpOwn w base' v S := ownsRow_mono h hb
theorem SpOwn.nil (w : World) (base : Nat) : SpOwn w base (.slice none 0 0) [] := ⟨rfl, .inl ⟨rfl, rfl⟩⟩
theorem SpAt.news {w : World} {b off : Nat} {S : List Spd} (h : SpAt w (some ⟨b, off, none⟩) S) : ∀ j u, (flat S)[j]? = some u → w.cell? ((⟨b, off, none⟩ : Addr).add j) = some u := fun j u hu => by
  have hj : j < S.length * 2 := by
    rcases Nat.lt_or_ge j (flat S).length with h1 | h1
    · rw [flat_len] at h1; exact h1
    · rw [List.getElem?_eq_none h1] at hu; cases hu
  obtain ⟨b', off', e, _, c1, c2⟩ := h (j / 2) (by omega)
  injection e with e
  injection e with e1 e2
  subst e1; subst e2
  obtain ⟨f1, f2⟩ := flat_at S (j / 2) (by omega)
  have e : (⟨b, off, none⟩ : Addr).add j = ⟨b, off + j, none⟩ := by
    unfold Addr.add; split
    · rename_i h; subst h; rfl
    · rfl
  rw [e]
  rcases Nat.mod_two_eq_zero_or_one j with hm | hm
  · rw [show j / 2 * 2 = j by omega] at f1 c1
    rw [c1, ← hu, f1]
  · rw [show off + j / 2 * 2 + 1 = off + j by omega] at c2
    rw [show j / 2 * 2 + 1 = j by omega] at f2
    rw [c2, ← hu, f2]
theorem SpOwn.empty (w : World)  : SpOwn (w.alloc (.cells #[] 33)) w.heap.size (.slice (some ⟨w.heap.size, 0, none⟩) 0 0) [] :=
  ⟨rfl, .inr ⟨w.heap.size, 0, #[], rfl, Nat.le_refl _, heap_alloc_new w _, Nat.le_refl _, Nat.zero_le _, rfl, rfl⟩⟩
theorem below_of_alloc {B : Nat} {w w' : World} {o : Obj} (h : Below B (w.alloc o) w') (hB : B ≤ w.heap.size) : Below B w w' := ((Below.refl _ _).alloc hB o).trans h
theorem SpAt.newsA {w : World} {a : Addr} {S : List Spd} (h : SpAt w (some a) S) (hA : a.spot = none ∨ S.length = 0) : ∀ j u, (flat S)[j]? = some u → w.cell? (a.add j) = some u := fun j u hu => by
  rcases hA with hA | hA
  · obtain ⟨b, off, spot⟩ := a
    have hA : spot = none := hA
    subst hA
    exact h.news j u hu
  · have : S = [] := List.eq_nil_of_length_eq_zero hA
    subst this
    simp [flat] at hu
/-- append of a slice of spends onto one of the call's own. -/
theorem app_spendsA {ops : Array Oper} {rest : List Oper} {o : Oper} {a : Act} {Q : Exit → Act → World → Prop} (hgd : o.guard = none) (s x : Operand)
    (ho : o.op = .call { callee := .builtin .append, args := #[s, x], argTypes := #[22, 22] })
    {base : Nat} {w : World} {v : Value} {S T : List Spd} {ad : Addr} {c : Nat} (hs : a.eval s = v) (hown : SpOwn w base v S)
    (hx : a.eval x = .slice (some ad) T.length c) (hT : ∀ j u, (flat T)[j]? = some u → w.cell? (ad.add j) = some u) (hl : S.length + T.length ≤ 200000) (hbase : base ≤ w.heap.size)
    (h : ∀ v' w', SpOwn w' base v' (S ++ T) → w.grownBy w' v.ownBlock → Below base w w' → wpList Try.prog ops Q rest (a.put o.dst v') w') :
    wpList Try.prog ops Q (o :: rest) a w := by
  obtain ⟨i0, hi, hz0, hz1, hz2⟩ := info_parts info_spend
  refine wpList_append_own w hgd s x 22 ho base 33 i0 _ 2 16 Try.underlying22 hi hz0 hz1 hz2 rfl (by omega) v S.length (flat S) hs hown _ T.length c (flat T) hx (flat_len T) hT (flat_one T) (by unfold maxLen; omega) (by omega) hbase ?_
  intro v' w' h2 h3 _
  refine h v' w' ?_ h3 ((Below.refl _ _).grown h3 hbase (fun k hk => (hown.lt k hk).1))
  unfold SpOwn; rw [List.length_append, flat_append]; exact h2
theorem app_spends {ops : Array Oper} {rest : List Oper} {o : Oper} {a : Act} {Q : Exit → Act → World → Prop} (hgd : o.guard = none) (s x : Operand)
    (ho : o.op = .call { callee := .builtin .append, args := #[s, x], argTypes := #[22, 22] })
    {base : Nat} {w : World} {v : Value} {S T : List Spd} {b off c : Nat} (hs : a.eval s = v) (hown : SpOwn w base v S)
    (hx : a.eval x = .slice (some ⟨b, off, none⟩) T.length c) (hT : SpAt w (some ⟨b, off, none⟩) T) (hl : S.length + T.length ≤ 200000) (hbase : base ≤ w.heap.size)
    (h : ∀ v' w', SpOwn w' base v' (S ++ T) → w.grownBy w' v.ownBlock → Below base w w' → wpList Try.prog ops Q rest (a.put o.dst v') w') :
    wpList Try.prog ops Q (o :: rest) a w := app_spendsA hgd s x ho hs hown hx hT.news hl hbase h

set_option maxRecDepth 100000 in
set_option maxHeartbeats 400000 in
theorem clone_any (A : Option Addr) (S : List Spd) (c : Nat) (w : World) (hS : SpAt w A S) (hA : ∀ a, A = some a → a.spot = none ∨ S.length = 0) (hN : A = none → S.length = 0 ∧ c = 0) (hl : S.length ≤ 100000) :
    Calls Try.prog 48 #[.slice A S.length c] w (fun e w' => ∃ v, e = .returned v ∧ SpOwn w' w.heap.size v S ∧ Below w.heap.size w w') := by
  rcases A with _ | a
  · obtain ⟨h1, rfl⟩ := hN rfl
    have : S = [] := List.eq_nil_of_length_eq_zero h1
    subst this
    clear hS hA hN h1
    have he : ∀ w : World, (binOp .eql 22 (.slice none 0 0) (.slice none 0 0)).run Try.prog w = .ok (.bool true) w := fun _ => rfl
    go_enter Try.func48, Try.ntmps48
    go_wp2
    go_ret
    exact ⟨_, rfl, SpOwn.nil _ _, Below.refl _ _⟩
  · have HA := Lib.hid (hA a rfl)
    clear hA hN
    have HS := Lib.hid hS
    clear hS
    have he : ∀ w : World, (binOp .eql 22 (.slice (some a) S.length c) (.slice none 0 0)).run Try.prog w = .ok (.bool false) w := fun _ => rfl
    go_enter Try.func48, Try.ntmps48
    go_wp2_with (first | (at_builtin; refine app_spendsA rfl (.tmp 5) (.tmp 6) rfl (base := w.heap.size) (S := []) (T := S) (v := .slice (some ⟨w.heap.size, 0, none⟩) 0 0) rfl (SpOwn.empty w) rfl ((HS.out.alloc _).newsA HA.out) (by simp; omega) (by simp) ?_; intro v w1 hown hg hb; clear hg he HS) | fail)
    go_ret
    exact ⟨_, rfl, hown, below_of_alloc hb (Nat.le_refl _)⟩

/-! ### The document's copy -/
theorem BudCell.frozen {w : World} {x : Nat} {P A : Int} {v : Value} (h : BudCell w x P A v) (j : Nat) : w.frozen? ⟨x, j, none⟩ = false := by
  unfold BudCell at h; simp [World.frozen?, h]
theorem results_bud {fn : Func} {p : Tmp} (h : fn.results = #[.cell p 24]) (tmps : Array Value) (w : World) (g : Nat) (hp : tmps.getD p undef = .pointer (some ⟨g, 0, none⟩)) {P A : Int} {v : Value} (hX : BudCell w g P A v) :
    (results fn tmps).run Try.prog w = .ok (.agg #[.int .i64 P, .int .i64 A, v]) w :=
  results_cell_row h tmps w g 24 _ (0, 0) _ hp hX Try.underlying24 rfl (by kernel_rfl)
theorem results_bud2 {fn : Func} {p u : Tmp} (h : fn.results = #[.cell p 24, .tmp u]) (tmps : Array Value) (w : World) (g : Nat) (hp : tmps.getD p undef = .pointer (some ⟨g, 0, none⟩)) {P A : Int} {v : Value} (hX : BudCell w g P A v) :
    (results fn tmps).run Try.prog w = .ok (.tuple #[.agg #[.int .i64 P, .int .i64 A, v], tmps.getD u undef]) w := by
  rw [results_cell_tmp h, hp]
  have hl := run_loadVar_row (P := Try.prog) w g 24 24 _ (0, 0) _ hX Try.underlying24 rfl (by kernel_rfl)
  simp [asAddr, hl, Result.andThen]
theorem BudCell.set0 {w : World} {x : Nat} {P A : Int} {v : Value} (h : BudCell w x P A v) (P' : Int) : BudCell (w.setCell ⟨x, 0, none⟩ (.int .i64 P')) x P' A v := by
  unfold BudCell at h ⊢; simp [World.setCell, Array.getElem?_modify, h]
theorem BudCell.set1 {w : World} {x : Nat} {P A : Int} {v : Value} (h : BudCell w x P A v) (A' : Int) : BudCell (w.setCell ⟨x, 1, none⟩ (.int .i64 A')) x P A' v := by
  unfold BudCell at h ⊢; simp [World.setCell, Array.getElem?_modify, h]
theorem BudCell.set2 {w : World} {x : Nat} {P A : Int} {v : Value} (h : BudCell w x P A v) (v' : Value) : BudCell (w.setCell ⟨x, 2, none⟩ v') x P A v' := by
  unfold BudCell at h ⊢; simp [World.setCell, Array.getElem?_modify, h]
theorem BudCell.other {w : World} {x : Nat} {P A : Int} {v : Value} (h : BudCell w x P A v) (p : Addr) (u : Value) (hp : x ≠ p.block) : BudCell (w.setCell p u) x P A v :=
  (Below.heap_setCell w p u x hp).trans h
theorem SpOwn.set_ {w : World} {base : Nat} {v : Value} {S : List Spd} (h : SpOwn w base v S) (p : Addr) (u : Value) (hp : p.block < base) : SpOwn (w.setCell p u) base v S := by
  obtain ⟨h1, h2⟩ := h
  refine ⟨h1, ?_⟩
  rcases h2 with h2 | ⟨g, cap, cur, hv, hg, hh, r⟩
  · exact .inl h2
  · exact .inr ⟨g, cap, cur, hv, hg, (Below.heap_setCell w p u g (by omega)).trans hh, r⟩
theorem below_set {B : Nat} {w w' : World} (h : Below B w w') (p : Addr) (u : Value) (hp : B ≤ p.block) : Below B w (w'.setCell p u) :=
  ⟨h.os, h.tape, h.output, by simpa [World.setCell] using h.size, fun k hk => (Below.heap_setCell w' p u k (by omega)).trans (h.block k hk)⟩
theorem copy_cells {w w1 : World} {P A : Int} {v : Value} (hg : ((w.alloc (.cells #[.int .i64 P, .int .i64 A, v] 24)).alloc (.cells #[.int .i64 0, .int .i64 0, .slice none 0 0] 24)).grownBy w1 (Value.slice none 0 0).ownBlock) :
    BudCell w1 w.heap.size P A v ∧ BudCell w1 (w.heap.size + 1) 0 0 (.slice none 0 0) := by
  have hb : Below (w.heap.size + 1 + 1) ((w.alloc (.cells #[.int .i64 P, .int .i64 A, v] 24)).alloc (.cells #[.int .i64 0, .int .i64 0, .slice none 0 0] 24)) w1 :=
    ⟨hg.os, hg.tape, hg.output, hg.size, fun k hk => hg.block k (by simp; omega) (by simp [Value.ownBlock])⟩
  exact ⟨(hb.block _ (by omega)).trans ((BudCell.new (w := w) P A v rfl).alloc _), (hb.block _ (by omega)).trans (BudCell.new _ _ _ (by simp))⟩
set_option maxRecDepth 100000 in
set_option maxHeartbeats 400000 in
theorem copy_any (P A : Int) (B : Option Addr) (S : List Spd) (c : Nat) (w : World) (hS : SpAt w B S) (hA : ∀ a, B = some a → a.spot = none ∨ S.length = 0) (hN : B = none → S.length = 0 ∧ c = 0) (hl : S.length ≤ 100000) :
    Calls Try.prog 65 #[.agg #[.int .i64 P, .int .i64 A, .slice B S.length c]] w (fun e w' => ∃ v, e = .returned (.agg #[.int .i64 P, .int .i64 A, v]) ∧ SpOwn w' w.heap.size v S ∧ Below w.heap.size w w') := by
  rcases B with _ | a
  · obtain ⟨h1, rfl⟩ := hN rfl
    have : S = [] := List.eq_nil_of_length_eq_zero h1
    subst this
    clear hS hA hN h1
    go_enter Try.func65, Try.ntmps65
    go_wp2_with fail
    refine bodyPost_ret (results_bud rfl _ _ (w.heap.size + 1) rfl (P := P) (A := A) (v := .slice none 0 0) (BudCell.new _ _ _ (by simp))) rfl ⟨_, rfl, SpOwn.nil _ _, (below_alloc _ _).alloc (by simp) _⟩
  · have HA := Lib.hid (hA a rfl)
    clear hA hN
    have HS := Lib.hid hS
    clear hS
    go_enter Try.func65, Try.ntmps65
    go_wp2_with (first | (at_builtin; refine app_spendsA rfl (.const (.slice none 0 0)) (.tmp 4) rfl (base := w.heap.size + 1 + 1) (S := []) (T := S) (v := .slice none 0 0) rfl (SpOwn.nil _ _) rfl (((HS.out.alloc _).alloc _).newsA HA.out) (by simp; omega) (by simp) ?_; intro v w1 hown hg hb; obtain ⟨C, c', rfl, hC, -, hCb⟩ := hown.at_; have hX := (copy_cells hg).1; have hY := (copy_cells hg).2; have x0 := hX.c0; have x1 := hX.c1; have x2 := hX.c2; have y0 := hY.c0; have y1 := hY.c1; have y2 := hY.c2; have f0 := hY.frozen 0; have f1 := hY.frozen 1; have f2 := hY.frozen 2; have g2 := hX.frozen 2) | fail)
    refine bodyPost_ret (results_bud rfl _ _ (w.heap.size + 1) rfl (P := P) (A := A) (v := .slice C S.length c') ?_) rfl ⟨_, rfl, ?_, ?_⟩
    · exact (((hY.other _ _ (by simp)).set0 P).set1 A).set2 _
    · exact ((((hown.set_ _ _ (by simp; omega)).set_ _ _ (by simp)).set_ _ _ (by simp)).set_ _ _ (by simp)).mono (by omega)
    · exact below_set (below_set (below_set (below_set ((below_of_alloc (below_of_alloc (hb.mono (show w.heap.size ≤ _ by omega)) (by simp)) (Nat.le_refl _))) _ _ (by simp)) _ _ (by simp)) _ _ (by simp)) _ _ (by simp)
end Go.Proofs.Ytmnkgfimdlhhiaa
