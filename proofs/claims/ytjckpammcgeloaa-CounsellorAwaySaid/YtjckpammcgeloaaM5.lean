/-
  Desks: copies.
  A region that draws its order: a call of a function value.
  Desks: the least of some tallies.
  Desks: counts, and the cases that were not seen.
  The library's walk of a list of cases from its end.
  Conditions: those that each theorem names.
-/
import Derived.Test.YtjckpammcgeloaaM4
import Derived.Laws.AppendOwnNone
import Derived.Deep.DeepCutAuto
import Derived.Deep.CutBlock
import Derived.RangeFuncNested
import Derived.RangeFuncBound
import Derived.RangeFuncCalls
import Derived.RangeFuncLeaves
import Derived.RangeFuncBox
import Derived.Shelf.Abstract
import Derived.Shelf.RegionOpen
import Derived.OwnWalkIn
import Derived.TacticsInMore
import Derived.LoopNIn
import Derived.LoopIn
set_option linter.unusedVariables false
set_option linter.unusedSimpArgs false
namespace Go.Proofs.Ytjckpammcgeloaa
open Go.RowKit

/-- The call returns a new slice. -/
def NewEl {α : Type} (E : El α) (ty : TypeId) (L : List α) (w : World) (e : Ending) (w' : World) : Prop := ∃ v, e = .returned v ∧ ElOwn E ty w' w.heap.size v L ∧ Below w.heap.size w w'
set_option maxRecDepth 100000 in
set_option maxHeartbeats 1000000 in
theorem cloneK_any {P : Nat → Prop} (A : Option Addr) (L : List CaseD) (c : Nat) (w : World) (hL : ElP EK P w A c L) (hl : L.length ≤ 100000) :
    Calls Try.prog 47 #[.slice A L.length c] w (NewEl EK 37 L w) := by
  rcases A with _ | a
  · have hc := hL.ok.nil rfl
    have : L = [] := List.eq_nil_of_length_eq_zero (by have := hL.ok.len; omega)
    subst this
    subst hc
    clear hL hl
    have he : ∀ w : World, (binOp .eql 28 (.slice none 0 0) (.slice none 0 0)).run Try.prog w = .ok (.bool true) w := fun _ => rfl
    go_enter Try.func47, Try.ntmps47
    go_wp2
    go_ret
    exact ⟨_, rfl, ElOwn.nil _ _ _ _, Below.refl _ _⟩
  · have HA := Lib.hid (show a.spot = none ∨ L.length = 0 from hL.ok.spot.elim .inr (fun h => .inl (h a rfl)))
    have HS := Lib.hid hL.at_
    clear hL
    have he : ∀ w : World, (binOp .eql 28 (.slice (some a) L.length c) (.slice none 0 0)).run Try.prog w = .ok (.bool false) w := fun _ => rfl
    go_enter Try.func47, Try.ntmps47
    go_wp2_with (first | (at_builtin; refine app_els EK Try.underlying28 info_case rfl rfl (.tmp 5) (.tmp 6) rfl (base := w.heap.size) (S := []) (T := L) (v := .slice (some ⟨w.heap.size, 0, none⟩) 0 0) rfl (ElOwn.empty EK _ w) rfl ((HS.out.alloc _).newsA HA.out) (by simp; omega) (by omega) (by simp) ?_; intro v w1 hown hg hb; clear hg he HS) | fail)
    go_ret
    exact ⟨_, rfl, hown, (((Below.refl _ _).alloc (Nat.le_refl _) _).trans hb)⟩
set_option maxRecDepth 100000 in
set_option maxHeartbeats 1000000 in
theorem cloneS_any {P : Nat → Prop} (A : Option Addr) (L : List ByteArray) (c : Nat) (w : World) (hL : ElP ES P w A c L) (hl : L.length ≤ 100000) :
    Calls Try.prog 48 #[.slice A L.length c] w (NewEl ES 9 L w) := by
  rcases A with _ | a
  · have hc := hL.ok.nil rfl
    have : L = [] := List.eq_nil_of_length_eq_zero (by have := hL.ok.len; omega)
    subst this
    subst hc
    clear hL hl
    have he : ∀ w : World, (binOp .eql 43 (.slice none 0 0) (.slice none 0 0)).run Try.prog w = .ok (.bool true) w := fun _ => rfl
    go_enter Try.func48, Try.ntmps48
    go_wp2
    go_ret
    exact ⟨_, rfl, ElOwn.nil _ _ _ _, Below.refl _ _⟩
  · have HA := Lib.hid (show a.spot = none ∨ L.length = 0 from hL.ok.spot.elim .inr (fun h => .inl (h a rfl)))
    have HS := Lib.hid hL.at_
    clear hL
    have he : ∀ w : World, (binOp .eql 43 (.slice (some a) L.length c) (.slice none 0 0)).run Try.prog w = .ok (.bool false) w := fun _ => rfl
    go_enter Try.func48, Try.ntmps48
    go_wp2_with (first | (at_builtin; refine app_els ES Try.underlying43 info_str rfl rfl (.tmp 5) (.tmp 6) rfl (base := w.heap.size) (S := []) (T := L) (v := .slice (some ⟨w.heap.size, 0, none⟩) 0 0) rfl (ElOwn.empty ES _ w) rfl ((HS.out.alloc _).newsA HA.out) (by simp; omega) (by omega) (by simp) ?_; intro v w1 hown hg hb; clear hg he HS) | fail)
    go_ret
    exact ⟨_, rfl, hown, (((Below.refl _ _).alloc (Nat.le_refl _) _).trans hb)⟩

/-- append of one element, and where the new slice lies. -/
theorem app_elL {α : Type} (E : El α) {t ty : TypeId} {z : Value} {bytes : Nat} (ht : Try.prog.underlying t = some (.slice ty)) (hinfo : (Try.prog.info? ty).map (fun i => (i.zero, i.size, i.bytes)) = some (some z, E.n, bytes)) (hzs : z.cells.size = E.n)
    {ops : Array Oper} {rest : List Oper} {o : Oper} {a : Act} {Q : Exit → Act → World → Prop} (hgd : o.guard = none) (s x : Operand)
    (ho : o.op = .call { callee := .builtin .append, args := #[s, x], argTypes := #[t, t] })
    {base : Nat} {w : World} {v : Value} {S : List α} (y : α) {C : Array Value} (hC : C = (E.f y).toArray) (hs : a.eval s = v) (hown : ElOwn E ty w base v S) (H : Nat) (hH : w.heap.size = H)
    (hx : a.eval x = .slice (some ⟨H, 0, none⟩) 1 1) (hl : S.length + 1 ≤ 1000000) (hb : bytes ≤ 1000) (hbase : base ≤ w.heap.size)
    (h : ∀ g cap w', ElOwn E ty w' base (.slice (some ⟨g, 0, none⟩) (S.length + 1) cap) (S ++ [y]) → w.grownBy w' v.ownBlock → (v.ownBlock = some g ∨ g = H + 1) → wpList Try.prog ops Q rest (a.put o.dst (.slice (some ⟨g, 0, none⟩) (S.length + 1) cap)) w') :
    wpList Try.prog ops Q (o :: rest) a (w.alloc (.cells C ty)) := by
  subst hC hH
  obtain ⟨i0, hi, hz0, hz1, hz2⟩ := info_parts hinfo
  have hE1 : E.flat [y] = E.f y := by simp [El.flat]
  have hn := (ElAt.lit E w y ty).news
  rw [hE1] at hn
  have hbb : (S.length + 1) * bytes ≤ 1000000 * 1000 := Nat.mul_le_mul hl hb
  refine wpList_append_lies _ hgd s x t ho base ty i0 z E.n bytes ht hi hz0 hz1 hz2 hzs E.pos v S.length (E.flat S) hs (hown.alloc _) ⟨w.heap.size, 0, none⟩ 1 1 (E.f y) hx (by rw [E.len]; simp) hn (fun u hu => E.one y u hu) (by omega) (by unfold maxLen; omega) (by omega) (by simp; omega) (w.heap.size + 1) (by simp) ?_
  intro g cap w' ho' hg hor _
  have hg' : w.grownBy w' v.ownBlock := ⟨hg.os, hg.tape, hg.output, Nat.le_trans (by simp) hg.size, fun k hk hne => (hg.block k (by simp; omega) hne).trans (Below.heap_alloc w _ k hk)⟩
  refine h g cap w' ?_ hg' hor
  unfold ElOwn; rw [List.length_append, El.flat_append, hE1, List.length_singleton]; exact ho'
/-- append of a slice that can be read. -/
theorem app_elA {α : Type} (E : El α) {t ty : TypeId} {z : Value} {bytes : Nat} (ht : Try.prog.underlying t = some (.slice ty)) (hinfo : (Try.prog.info? ty).map (fun i => (i.zero, i.size, i.bytes)) = some (some z, E.n, bytes)) (hzs : z.cells.size = E.n)
    {ops : Array Oper} {rest : List Oper} {o : Oper} {a : Act} {Q : Exit → Act → World → Prop} (hgd : o.guard = none) (s x : Operand)
    (ho : o.op = .call { callee := .builtin .append, args := #[s, x], argTypes := #[t, t] })
    {P : Nat → Prop} {base : Nat} {w : World} {v : Value} {S T : List α} {A : Option Addr} {c : Nat} (hs : a.eval s = v) (hown : ElOwn E ty w base v S)
    (hx : a.eval x = .slice A T.length c) (hT : ElP E P w A c T) (hl : S.length + T.length ≤ 1000000) (hb : bytes ≤ 1000) (hbase : base ≤ w.heap.size)
    (h : ∀ v' w', ElOwn E ty w' base v' (S ++ T) → w.grownBy w' v.ownBlock → Below base w w' → wpList Try.prog ops Q rest (a.put o.dst v') w') :
    wpList Try.prog ops Q (o :: rest) a w := by
  rcases A with _ | ad
  · have hc := hT.ok.nil rfl
    have : T = [] := List.eq_nil_of_length_eq_zero (by have := hT.ok.len; omega)
    subst this
    subst hc
    obtain ⟨i0, hi, hz0, hz1, hz2⟩ := info_parts hinfo
    refine wpList_append_own_none hgd s x t ho base ty i0 E.n ht hi v S.length (E.flat S) hs hown hx ?_
    exact h v w (by rw [List.append_nil]; exact hown) ⟨rfl, rfl, rfl, Nat.le_refl _, fun _ _ _ => rfl⟩ (Below.refl _ _)
  · exact app_els E ht hinfo hzs hgd s x ho hs hown hx (hT.at_.newsA (hT.ok.spot.elim .inr (fun h => .inl (h ad rfl)))) hl hb hbase h
theorem results_desk {fn : Func} {t : Tmp} (h : fn.results = #[.cell t 30]) (tmps : Array Value) (w : World) (g : Nat) (hp : tmps.getD t undef = .pointer (some ⟨g, 0, none⟩)) {u v : Value} (hX : DeskCell w g u v) :
    (results fn tmps).run Try.prog w = .ok (.agg #[u, v]) w :=
  results_cell_row h tmps w g 30 _ (0, 0) _ hp hX Try.underlying30 rfl (by kernel_rfl)
theorem below_set {B : Nat} {w w' : World} (h : Below B w w') (p : Addr) (u : Value) (hp : B ≤ p.block) : Below B w (w'.setCell p u) :=
  h.trans ⟨rfl, rfl, rfl, by simp [World.setCell], fun k hk => Below.heap_setCell w' p u k (by omega)⟩
/-- A copy under way. -/
structure CpS (w wr : World) (ox : Nat) (v vk : Value) (C : List CouD) (K : List CaseD) : Prop where
  hb : Below w.heap.size w wr
  cell : DeskCell wr ox v vk
  lo : w.heap.size ≤ ox
  cs : ∃ X, ElOwn EC 45 wr w.heap.size v X ∧ CousV (fun b => w.heap.size ≤ b ∧ v.ownBlock ≠ some b ∧ vk.ownBlock ≠ some b ∧ b ≠ ox) wr X C
  ks : ElOwn EK 37 wr w.heap.size vk K
  ne : ∀ b, v.ownBlock = some b → vk.ownBlock ≠ some b ∧ b ≠ ox
  nk : vk.ownBlock ≠ some ox
section
variable {w wr w' : World} {ox : Nat} {v vk : Value} {C : List CouD} {K : List CaseD}
theorem CpS.below (h : CpS w wr ox v vk C K) (hb : Below wr.heap.size wr w') : CpS w w' ox v vk C K := by
  obtain ⟨X, h1, h2⟩ := h.cs
  exact ⟨below_trans h.hb hb, h.cell.below hb, h.lo, ⟨X, h1.below hb, h2.keep (Kpt.below hb)⟩, h.ks.below hb, h.ne, h.nk⟩
/-- A block that came later turns. -/
theorem CpS.set (h : CpS w wr ox v vk C K) (p : Addr) (u : Value) (hp : w.heap.size ≤ p.block) (h1 : p.block ≠ ox) (h2 : v.ownBlock ≠ some p.block) (h3 : vk.ownBlock ≠ some p.block) (h4 : ∀ X, CousV (fun b => w.heap.size ≤ b ∧ v.ownBlock ≠ some b ∧ vk.ownBlock ≠ some b ∧ b ≠ ox) wr X C → CousV (fun b => w.heap.size ≤ b ∧ v.ownBlock ≠ some b ∧ vk.ownBlock ≠ some b ∧ b ≠ ox) (wr.setCell p u) X C) : CpS w (wr.setCell p u) ox v vk C K := by
  obtain ⟨X, q1, q2⟩ := h.cs
  have hb : Below w.heap.size w (wr.setCell p u) := below_set h.hb p u hp
  exact ⟨hb, h.cell.other p u (fun e => h1 e.symm), h.lo, ⟨X, q1.kept (fun k hk => Below.heap_setCell wr p u k (fun e => h2 (by rw [← e]; exact hk))), h4 X q2⟩, h.ks.kept (fun k hk => Below.heap_setCell wr p u k (fun e => h3 (by rw [← e]; exact hk))), h.ne, h.nk⟩
theorem CpS.desk (h : CpS w wr ox v vk C K) : DeskO wr w.heap.size v vk ⟨C, K⟩ := by
  obtain ⟨X, q1, q2⟩ := h.cs
  exact ⟨⟨X, q1, q2.mono fun b _ hb => ⟨hb.1, hb.2.1, hb.2.2.1⟩⟩, h.ks, fun b e => (h.ne b e).1⟩
theorem CpS.lt (h : CpS w wr ox v vk C K) : (∀ b, v.ownBlock = some b → b < wr.heap.size) ∧ (∀ b, vk.ownBlock = some b → b < wr.heap.size) ∧ ox < wr.heap.size := by
  obtain ⟨X, q1, q2⟩ := h.cs
  exact ⟨fun b e => (World.ownsRow.lt q1 b e).2, fun b e => (World.ownsRow.lt h.ks b e).2, h.cell.lt⟩
/-- One counsellor more: w0 is the world ahead of the literal, which the append's world w' follows. -/
theorem CpS.more (h : CpS w wr ox v vk C K) {w0 : World} {tb : Nat} {va : Value} {L : List ByteArray} {d : CouD} {A : Option Addr} {n c g cap : Nat} (ht : tb = wr.heap.size) (hb0 : Below wr.heap.size wr w0) (htl : tb < w0.heap.size) (hva : ElOwn ES 9 w0 (tb + 1) va L) (hve : va = .slice A n c) (hL : d.away = L)
    {X : List CouV} (q1 : ElOwn EC 45 wr w.heap.size v X) (q2 : CousV (fun b => w.heap.size ≤ b ∧ v.ownBlock ≠ some b ∧ vk.ownBlock ≠ some b ∧ b ≠ ox) wr X C) (q3 : ElOwn EC 45 w' w.heap.size (.slice (some ⟨g, 0, none⟩) (X.length + 1) cap) (X ++ [⟨d.id, d.o, A, n, c⟩]))
    (hg : (w0.setCell ⟨tb, 2, none⟩ va).grownBy w' v.ownBlock) (hor : v.ownBlock = some g ∨ g = w0.heap.size + 1) :
    CpS w (w'.setCell ⟨ox, 0, none⟩ (.slice (some ⟨g, 0, none⟩) (X.length + 1) cap)) ox (.slice (some ⟨g, 0, none⟩) (X.length + 1) cap) vk (C ++ [d]) K := by
  obtain ⟨l1, l2, l3⟩ := h.lt
  have hsz : wr.heap.size ≤ w0.heap.size := hb0.size
  have hsz2 : w0.heap.size ≤ w'.heap.size := by have := hg.size; simpa [World.setCell] using this
  have hwsz := h.hb.size
  subst ht
  -- what stands from wr to w'
  have st : ∀ b, b < wr.heap.size → v.ownBlock ≠ some b → w'.heap[b]? = wr.heap[b]? := fun b hlt hne =>
    (hg.block b (by simp [World.setCell]; omega) (fun e => hne e.symm)).trans ((Below.heap_setCell w0 _ _ b (fun e => by have e2 : b = wr.heap.size := e; omega)).trans (hb0.block b hlt))
  have st2 : ∀ b, wr.heap.size < b → b < w0.heap.size → w'.heap[b]? = w0.heap[b]? := fun b h1 h2 =>
    (hg.block b (by simp [World.setCell]; omega) (fun e => by have := l1 b e.symm; omega)).trans (Below.heap_setCell w0 _ _ b (fun e => by have e2 : b = wr.heap.size := e; omega))
  have hgox : g ≠ ox := fun e => by
    rcases hor with ho | ho
    · exact (h.ne g ho).2 e
    · omega
  have hgk : vk.ownBlock ≠ some g := fun e => by
    rcases hor with ho | ho
    · exact (h.ne g ho).1 e
    · have := l2 g e; omega
  have hvox : v.ownBlock ≠ some ox := fun e => (h.ne ox e).2 rfl
  have hbw : Below w.heap.size w w' := ⟨hg.os.trans (by show w0.os = w.os; exact hb0.os.trans h.hb.os), hg.tape.trans (by show w0.tape = w.tape; exact hb0.tape.trans h.hb.tape), hg.output.trans (by show w0.output = w.output; exact hb0.output.trans h.hb.output), by omega, fun b hlt => (st b (by omega) (fun e => by have := (World.ownsRow.lt q1 b e).1; omega)).trans (h.hb.block b hlt)⟩
  have hox' : w'.heap[ox]? = wr.heap[ox]? := st ox l3 hvox
  have keepP : Kpt (fun b => (w.heap.size ≤ b ∧ v.ownBlock ≠ some b ∧ vk.ownBlock ≠ some b ∧ b ≠ ox) ∧ b < wr.heap.size) wr (w'.setCell ⟨ox, 0, none⟩ (.slice (some ⟨g, 0, none⟩) (X.length + 1) cap)) :=
    ⟨by simp [World.setCell]; omega, fun b hb hlt => (Below.heap_setCell w' _ _ b (fun e => by have e2 : b = ox := e; exact hb.1.2.2.2 e2)).trans (st b hlt hb.1.2.1)⟩
  have hown' : ElOwn EC 45 (w'.setCell ⟨ox, 0, none⟩ (.slice (some ⟨g, 0, none⟩) (X.length + 1) cap)) w.heap.size (.slice (some ⟨g, 0, none⟩) (X.length + 1) cap) (X ++ [⟨d.id, d.o, A, n, c⟩]) := by
    exact q3.kept fun k hk => Below.heap_setCell w' _ _ k (fun e2 => by
      have e3 : k = ox := e2
      have e4 : g = k := by injection hk
      exact hgox (e4.trans e3))
  obtain ⟨A', c', eA, hA', hAP⟩ : ∃ A' c', va = .slice A' L.length c' ∧ (A' = A ∧ c' = c ∧ n = L.length) ∧ ElP ES (fun b => va.ownBlock = some b ∧ wr.heap.size + 1 ≤ b) w0 A c L := by
    obtain ⟨A', c', e1, e2⟩ := hva.toP
    have e3 := hve.symm.trans e1
    injection e3 with e4 e5 e6
    subst e4 e6
    exact ⟨A, c, e1, ⟨rfl, rfl, e5⟩, e2⟩
  have hk0 : Kpt (fun b => va.ownBlock = some b ∧ wr.heap.size + 1 ≤ b) w0 (w'.setCell ⟨ox, 0, none⟩ (.slice (some ⟨g, 0, none⟩) (X.length + 1) cap)) :=
    ⟨by simp [World.setCell]; omega, fun b hb hlt => (Below.heap_setCell w' _ _ b (fun e => by have e2 : b = ox := e; omega)).trans (st2 b (by omega) hlt)⟩
  refine ⟨below_set hbw _ _ h.lo, (h.cell.keep hox').set0 _, h.lo, ⟨_, hown', CousV.app ((q2.mono (Q := fun b => (w.heap.size ≤ b ∧ v.ownBlock ≠ some b ∧ vk.ownBlock ≠ some b ∧ b ≠ ox) ∧ b < wr.heap.size) (fun b hlt hb => ⟨hb, hlt⟩)).keep keepP |>.mono (fun b _ hb => ⟨hb.1.1, fun e => ?_, hb.1.2.2.1, hb.1.2.2.2⟩)) (CousV.one ⟨rfl, rfl, by rw [hL]; exact hA'.2.2, ?_⟩)⟩, ?_, fun b e => ?_, h.nk⟩
  · have e2 : g = b := by injection e
    rcases hor with ho | ho
    · exact hb.1.2.1 (by rw [← e2]; exact ho)
    · have := hb.2; omega
  · rw [hL]
    refine (hAP.mono (Q := fun b => (va.ownBlock = some b ∧ wr.heap.size + 1 ≤ b) ∧ b < w0.heap.size) (fun b hlt hb => ⟨hb, hlt⟩)).keep (hk0.mono (fun b hb => hb.1)) |>.mono fun b _ hb => ⟨by omega, fun e => ?_, fun e => by have := l2 b e; omega, fun e => by omega⟩
    have e2 : g = b := by injection e
    rcases hor with ho | ho
    · have := l1 g ho; omega
    · omega
  · exact h.ks.kept fun b e => (Below.heap_setCell w' _ _ b (fun e2 => by have e3 : b = ox := e2; rw [e3] at e; exact h.nk e)).trans (st b (l2 b e) (fun e2 => (h.ne b e2).1 e))
  · have e2 : g = b := by injection e
    subst e2
    exact ⟨hgk, hgox⟩
theorem CpS.cases (h : CpS w wr ox v (.slice none 0 0) C []) (hb : Below wr.heap.size wr w') (hk : ElOwn EK 37 w' wr.heap.size vk K) : CpS w (w'.setCell ⟨ox, 1, none⟩ vk) ox v vk C K := by
  have h2 := h.below hb
  obtain ⟨X, q1, q2⟩ := h.cs
  obtain ⟨l1, -, l3⟩ := h.lt
  have hsz := h.hb.size
  refine ⟨below_set h2.hb _ _ h.lo, h2.cell.set1 _, h.lo, ⟨X, (q1.below hb).kept (fun k e => Below.heap_setCell _ _ _ k (fun e2 => by have e3 : k = ox := e2; exact (h.ne k e).2 e3)), ?_⟩, (hk.mono hsz).kept (fun k e => Below.heap_setCell _ _ _ k (fun e2 => by have e3 : k = ox := e2; have := (World.ownsRow.lt hk k e).1; omega)), fun b e => ⟨fun e2 => by have := l1 b e; have := (World.ownsRow.lt hk b e2).1; omega, (h.ne b e).2⟩, fun e => by have := (World.ownsRow.lt hk _ e).1; omega⟩
  refine (((q2.mono (Q := fun b => (w.heap.size ≤ b ∧ v.ownBlock ≠ some b ∧ b ≠ ox) ∧ b < wr.heap.size) (fun b hlt hb => ⟨⟨hb.1, hb.2.1, hb.2.2.2⟩, hlt⟩)).keep (Kpt.below hb)).keep (Kpt.set _ _ _ (fun b hb => hb.1.2.2))).mono fun b _ hb => ⟨hb.1.1, hb.1.2.1, fun e => ?_, hb.1.2.2⟩
  have := (World.ownsRow.lt hk b e).1
  omega
end
def CopD (D : DeskD) (w : World) (e : Ending) (w' : World) : Prop := ∃ u x, e = .returned (.agg #[u, x]) ∧ DeskO w' w.heap.size u x D ∧ Below w.heap.size w w'
theorem take_all_c (C : List CouD) : C.take C.length = C := List.take_length
theorem CpS.start {w1 w2 : World} {vk : Value} {K : List CaseD} (hk : ElOwn EK 37 w2 w1.heap.size vk K) (hb : Below w1.heap.size w1 w2) : CpS w1 (w2.alloc (.cells #[.slice none 0 0, vk] 30)) w2.heap.size (.slice none 0 0) vk [] K :=
  ⟨hb.trans ((below_alloc w2 _).mono hb.size), DeskCell.new _ _ rfl, hb.size, ⟨[], ElOwn.nil _ _ _ _, CousV.nil _ _⟩, hk.alloc _, fun b e => (by cases e), fun e => by have := (World.ownsRow.lt hk _ e).2; omega⟩
theorem cop_end {w w1 wr : World} {ox rx : Nat} {u x : Value} {D : DeskD} (h : CpS w1 wr ox u x D.cs D.ks) (hb1 : Below w.heap.size w w1) (hr : DeskCell wr rx (.slice none 0 0) (.slice none 0 0)) (hrx : w.heap.size ≤ rx) (hrl : rx < w1.heap.size) :
    CopD D w (.returned (.agg #[u, x])) ((wr.setCell ⟨rx, 0, none⟩ u).setCell ⟨rx, 1, none⟩ x) ∧ DeskCell ((wr.setCell ⟨rx, 0, none⟩ u).setCell ⟨rx, 1, none⟩ x) rx u x := by
  refine ⟨⟨u, x, rfl, ?_, below_set (below_set (hb1.trans (h.hb.mono hb1.size)) _ _ hrx) _ _ hrx⟩, (hr.set0 u).set1 x⟩
  have hd := h.desk
  obtain ⟨X, q1, q2⟩ := hd.cs
  have hk : ∀ k, w1.heap.size ≤ k → ((wr.setCell ⟨rx, 0, none⟩ u).setCell ⟨rx, 1, none⟩ x).heap[k]? = wr.heap[k]? := fun k hk => (Below.heap_setCell _ _ _ k (fun e => by have e2 : k = rx := e; omega)).trans (Below.heap_setCell _ _ _ k (fun e => by have e2 : k = rx := e; omega))
  have h3 : DeskO ((wr.setCell ⟨rx, 0, none⟩ u).setCell ⟨rx, 1, none⟩ x) w1.heap.size u x D :=
    ⟨⟨X, q1.kept fun k e => hk k (World.ownsRow.lt q1 k e).1, q2.keep ⟨by simp [World.setCell], fun b hb _ => hk b hb.1⟩⟩, hd.ks.kept fun k e => hk k (World.ownsRow.lt hd.ks k e).1, hd.ne⟩
  exact h3.lower hb1.size
set_option maxRecDepth 100000 in
set_option maxHeartbeats 4000000 in
theorem copied_any {P : Nat → Prop} (v : Value) (D : DeskD) (w : World) (hD : DeskR P w v D) (sD : DeskS D) :
    Calls Try.prog 26 #[v] w (CopD D w) := by
  obtain ⟨A, ca, B, cb, rfl, h1, h2⟩ := hD
  obtain ⟨C, K⟩ := D
  have HC := Lib.hid h1
  have HKS := Lib.hid h2
  have HSZ := Lib.hid sD.co
  have lc : C.length ≤ 1000 := sD.lc
  have lk : K.length ≤ 1000 := sD.lk
  clear h1 h2 sD
  go_enter Try.func26, Try.ntmps26
  go_wp2_with fail
  refine gen_calls fun w1 hw1 => ?_
  have hb1 : Below w.heap.size w w1 := by rw [hw1]; exact bl_alloc _ (below_alloc _ _)
  have hz1 : w1.heap.size = w.heap.size + 2 := by rw [hw1]; simp
  have HDC := Lib.hid (show DeskCell w1 w.heap.size (.slice A C.length ca) (.slice B K.length cb) from by rw [hw1]; exact (DeskCell.new _ _ rfl).below (below_alloc _ _))
  have HRC := Lib.hid (show DeskCell w1 (w.heap.size + 1) (.slice none 0 0) (.slice none 0 0) from by rw [hw1]; exact DeskCell.new _ _ (by simp))
  have HZ1 := Lib.hid hz1
  have HB1 := Lib.hid hb1
  clear hw1 hz1
  refine (cloneK_any B K cb w1 (HKS.out.below hb1) (show K.length ≤ 100000 by omega)).mono ?_
  rintro e w2 ⟨vk, rfl, hk, hb2⟩
  obtain ⟨Bk, ck, rfl, -⟩ := hk.toP
  have HST := Lib.hid (CpS.start hk hb2)
  have d0 := (HDC.out.below hb2).c0
  have ld := (HDC.out.below hb2).lt
  clear hk hb1
  go_wp2_with fail
  clear d0 ld hb2
  have HOX := Lib.hid HST.out.lo
  generalize w2.heap.size = ox at *
  go_loopw [13] (fun i wr => ∃ (k : Nat) (v : Value), k ≤ C.length ∧ i = .int .i64 k ∧ CpS w1 wr ox v (.slice Bk K.length ck) (C.take k) K) (fun i _ => C.length - (intOf i).toNat)
  case atStart => exact ⟨0, _, Nat.zero_le _, rfl, HST.out⟩
  case round =>
    obtain ⟨k, v, hk, rfl, hS⟩ := hrel
    have HS := Lib.hid hS
    have HBW := Lib.hid (below_trans HB1.out hS.hb)
    clear hS
    by_cases hlt : k < C.length
    · obtain ⟨b, off, x, rfl, hbl, -, c0, c1, c2, hx⟩ := (HC.out.below HBW.out).elem hlt
      obtain ⟨xi, xo, xA, xn, xc⟩ := x
      have e1 : xi = (cAt C k).id := hx.id
      have e2 : xo = (cAt C k).o := hx.o
      have e3 : xn = (cAt C k).away.length := hx.n
      have HXA := Lib.hid (show ElP ES P wr xA xc (cAt C k).away from hx.away)
      have HTK := Lib.hid (take_c hlt)
      have hla := (HSZ.out k hlt).2.1
      clear hx
      subst e1 e2 e3
      have hk0 : (0 : Int) ≤ (k : Int) := by omega
      have hkl : (k : Int) < (C.length : Int) := by omega
      go_wp2_with fail
      refine gen_calls fun w3 hw3 => ?_
      have hb3 : Below wr.heap.size wr w3 := by rw [hw3]; exact below_alloc _ _
      have hz3 : w3.heap.size = wr.heap.size + 1 := by rw [hw3]; simp
      have htc : w3.heap[wr.heap.size]? = some (.cells #[(.int .i64 (cAt C k).id), .string (cAt C k).o, .slice xA (cAt C k).away.length xc] 45 (0, 0)) := by rw [hw3]; exact heap_alloc_new _ _
      clear hw3 c0 c1 c2
      refine (cloneS_any xA (cAt C k).away xc w3 (HXA.out.below hb3) (by omega)).mono ?_
      rintro e w4 ⟨va, rfl, hva, hb4⟩
      obtain ⟨A', c', rfl, -⟩ := hva.toP
      have ht4 : w4.heap[wr.heap.size]? = some (.cells #[(.int .i64 (cAt C k).id), .string (cAt C k).o, .slice xA (cAt C k).away.length xc] 45 (0, 0)) := (hb4.block _ (by omega)).trans htc
      have HW4 := Lib.hid (below_trans hb3 hb4)
      obtain ⟨X, q1, q2⟩ := HS.out.cs
      obtain ⟨Cx, cx, rfl, -⟩ := q1.toP
      have HQ1 := Lib.hid q1
      have HQ2 := Lib.hid q2
      have HVA := Lib.hid (show ElOwn ES 9 w4 (wr.heap.size + 1) (.slice A' (cAt C k).away.length c') (cAt C k).away from by rw [← hz3]; exact hva)
      have HT4 := Lib.hid ht4
      have hs4 := hb4.size
      have t0 : w4.cell? ⟨wr.heap.size, 0, none⟩ = some (.int .i64 (cAt C k).id) := by rw [cell_of_row _ _ 0 _ _ (0, 0) ht4]; rfl
      have t1 : w4.cell? ⟨wr.heap.size, 1, none⟩ = some (.string (cAt C k).o) := by rw [cell_of_row _ _ 1 _ _ (0, 0) ht4]; rfl
      have t2 : w4.cell? ⟨wr.heap.size, 2, none⟩ = some (.slice xA (cAt C k).away.length xc) := by rw [cell_of_row _ _ 2 _ _ (0, 0) ht4]; rfl
      have tf : w4.frozen? ⟨wr.heap.size, 2, none⟩ = false := by simp [World.frozen?, ht4]
      have o0 := (HS.out.cell.below HW4.out).c0
      have lo := HS.out.cell.lt
      have lo' : ¬ ox = wr.heap.size := by omega
      have lo2 : ox < w4.heap.size := by omega
      have lt4 : wr.heap.size < w4.heap.size := by omega
      clear q1 q2 hva htc ht4 hb3 hb4 hz3
      have HO4 := Lib.hid (show ElOwn EC 45 (w4.setCell ⟨wr.heap.size, 2, none⟩ (.slice A' (cAt C k).away.length c')) w1.heap.size (.slice Cx X.length cx) X from (HQ1.out.below HW4.out).kept (fun j hj => Below.heap_setCell _ _ _ j (fun e => by have e2 : j = wr.heap.size := e; have := (World.ownsRow.lt HQ1.out j hj).2; omega)))
      have hxl : X.length ≤ 1000 := by rw [HQ2.out.len]; simp; omega
      have hsz : (w4.setCell ⟨wr.heap.size, 2, none⟩ (.slice A' (cAt C k).away.length c')).heap.size = w4.heap.size := by simp [World.setCell]
      have HSZ4 := Lib.hid hsz
      have hle : w1.heap.size ≤ w4.heap.size := by have := HS.out.hb.size; omega
      clear hsz
      go_wp2_with (first | (at_builtin; refine app_elL EC Try.underlying27 info_cou rfl rfl (.tmp 22) (.tmp 24) rfl (base := w1.heap.size) (w := w4.setCell ⟨wr.heap.size, 2, none⟩ (.slice A' (cAt C k).away.length c')) (v := .slice Cx X.length cx) (S := X) ⟨(cAt C k).id, (cAt C k).o, A', (cAt C k).away.length, c'⟩ rfl rfl HO4.out w4.heap.size HSZ4.out rfl (by omega) (by omega) (by rw [HSZ4.out]; exact hle) ?_; intro g cap w5 hown5 hg5 hor5; have dc5 : DeskCell w5 ox (.slice Cx X.length cx) (.slice Bk K.length ck) := (hg5.block ox (by rw [HSZ4.out]; exact lo2) (fun e => (HS.out.ne ox e.symm).2 rfl)).trans ((Below.heap_setCell _ _ _ ox lo').trans ((HW4.out.block ox lo).trans HS.out.cell)); have d5 := dc5.c0; have f5 := dc5.fz 0; have HO5 := Lib.hid hown5; have HG5 := Lib.hid hg5; have HR5 := Lib.hid hor5; clear hown5 hg5 hor5 dc5) | fail)
      go_roundw
      case rel => exact ⟨k + 1, _, by omega, by go_num, by rw [HTK.out]; exact CpS.more HS.out rfl HW4.out lt4 HVA.out rfl rfl HQ1.out HQ2.out HO5.out HG5.out HR5.out⟩
      case measure => simp [intOf]; omega
    · obtain rfl : C.length = k := by omega
      have hkl : ¬ (C.length : Int) < (C.length : Int) := by omega
      have HSS := Lib.hid (show CpS w1 wr ox v (.slice Bk K.length ck) (⟨C, K⟩ : DeskD).cs (⟨C, K⟩ : DeskD).ks from by have := HS.out; rw [take_all_c] at this; exact this)
      have HE := Lib.hid (cop_end (D := ⟨C, K⟩) HSS.out HB1.out (HRC.out.below HS.out.hb) (by omega) (by have := HZ1.out; omega))
      obtain ⟨X, q1, q2⟩ := HS.out.cs
      obtain ⟨Cx, cx, rfl, -⟩ := q1.toP
      have o0 := HS.out.cell.c0
      have o1 := HS.out.cell.c1
      have r0 := (HRC.out.below HS.out.hb).c0
      have r1 := (HRC.out.below HS.out.hb).c1
      have rf0 := (HRC.out.below HS.out.hb).fz 0
      have rf1 := (HRC.out.below HS.out.hb).fz 1
      clear q1 q2
      go_wp2_with fail
      exact bodyPost_ret (results_desk rfl _ _ (w.heap.size + 1) rfl HE.out.2) rfl HE.out.1
set_option maxRecDepth 100000 in
set_option maxHeartbeats 4000000 in
theorem refCopy_any {P : Nat → Prop} (v : Value) (D : DeskD) (w : World) (hD : DeskR P w v D) (sD : DeskS D) :
    Calls Try.prog 61 #[v] w (CopD D w) := by
  obtain ⟨A, ca, B, cb, rfl, h1, h2⟩ := hD
  obtain ⟨C, K⟩ := D
  have HC := Lib.hid h1
  have HKS := Lib.hid h2
  have HSZ := Lib.hid sD.co
  have lc : C.length ≤ 1000 := sD.lc
  have lk : K.length ≤ 1000 := sD.lk
  clear h1 h2 sD
  go_enter Try.func61, Try.ntmps61
  go_wp2_with fail
  refine gen_world fun wh hwh => ?_
  obtain ⟨w1, hw1⟩ : ∃ w1, w1 = (w.alloc (.cells #[.slice A C.length ca, .slice B K.length cb] 30)).alloc (.cells #[.slice none 0 0, .slice none 0 0] 30) := ⟨_, rfl⟩
  rw [← hw1] at hwh
  have hb1 : Below w.heap.size w w1 := by rw [hw1]; exact bl_alloc _ (below_alloc _ _)
  have hz1 : w1.heap.size = w.heap.size + 2 := by rw [hw1]; simp
  have HDC := Lib.hid (show DeskCell w1 w.heap.size (.slice A C.length ca) (.slice B K.length cb) from by rw [hw1]; exact (DeskCell.new _ _ rfl).below (below_alloc _ _))
  have HRC := Lib.hid (show DeskCell w1 (w.heap.size + 1) (.slice none 0 0) (.slice none 0 0) from by rw [hw1]; exact DeskCell.new _ _ (by simp))
  have HZ1 := Lib.hid hz1
  have HB1 := Lib.hid hb1
  have HST := Lib.hid (show CpS w1 wh w1.heap.size (.slice none 0 0) (.slice none 0 0) [] [] from by rw [hwh]; exact CpS.start (ElOwn.nil _ _ _ _) (Below.refl _ _))
  have eox : w.heap.size + 1 + 1 = w1.heap.size := by omega
  rw [eox]
  clear hw1 hz1 hwh hb1 eox
  have HOX := Lib.hid HST.out.lo
  have HOX2 := Lib.hid (show w.heap.size + 1 < w1.heap.size from by have := HZ1.out; omega)
  generalize hox : w1.heap.size = ox at *
  have HOXE := Lib.hid hox
  clear hox
  go_loopw [4] (fun i wr => ∃ (k : Nat) (v : Value), k ≤ C.length ∧ i = .int .i64 k ∧ CpS w1 wr ox v (.slice none 0 0) (C.take k) []) (fun i _ => C.length - (intOf i).toNat)
  case atStart => exact ⟨0, _, Nat.zero_le _, rfl, HST.out⟩
  case round =>
    obtain ⟨k, v, hk, rfl, hS⟩ := hrel
    have HS := Lib.hid hS
    have HBW := Lib.hid (below_trans HB1.out hS.hb)
    have HDR := Lib.hid (HDC.out.below hS.hb)
    have g0 := HDR.out.c0
    have g1 := HDR.out.c1
    have lg := HDR.out.lt
    clear hS
    by_cases hlt : k < C.length
    · obtain ⟨b, off, x, rfl, hbl, -, c0, c1, c2, hx⟩ := (HC.out.below HBW.out).elem hlt
      obtain ⟨xi, xo, xA, xn, xc⟩ := x
      have e1 : xi = (cAt C k).id := hx.id
      have e2 : xo = (cAt C k).o := hx.o
      have e3 : xn = (cAt C k).away.length := hx.n
      have HXA := Lib.hid (show ElP ES P wr xA xc (cAt C k).away from hx.away)
      have HTK := Lib.hid (take_c hlt)
      have hla := (HSZ.out k hlt).2.1
      clear hx
      subst e1 e2 e3
      have hk0 : (0 : Int) ≤ (k : Int) := by omega
      have hkl : (k : Int) < (C.length : Int) := by omega
      go_upto_region 6 with fail
      refine gen_world fun w3 hw3 => ?_
      have hb3 : Below wr.heap.size wr w3 := by rw [hw3]; exact below_alloc _ _
      have hz3 : w3.heap.size = wr.heap.size + 1 := by rw [hw3]; simp
      have htc : w3.heap[wr.heap.size]? = some (.cells #[(.int .i64 (cAt C k).id), .string (cAt C k).o, .slice xA (cAt C k).away.length xc] 45 (0, 0)) := by rw [hw3]; exact heap_alloc_new _ _
      clear hw3 c0 c1 c2 g0 g1 lg
      have t2 : w3.cell? ⟨wr.heap.size, 2, none⟩ = some (.slice xA (cAt C k).away.length xc) := by rw [cell_of_row _ _ 2 _ _ (0, 0) htc]; rfl
      have HTC := Lib.hid htc
      have HB3 := Lib.hid hb3
      have HZ3 := Lib.hid hz3
      clear htc hb3 hz3
      go_upto_region 7 with (first | (at_builtin; refine app_elA ES Try.underlying43 info_str rfl rfl (.const (.slice none 0 0)) (.tmp 19) rfl (base := w3.heap.size) (S := []) (T := (cAt C k).away) rfl (ElOwn.nil _ _ _ _) rfl (HXA.out.below HB3.out) (by simp; omega) (by omega) (Nat.le_refl _) ?_; intro va w4 hva hg4 hb4; obtain ⟨A', c', rfl, -⟩ := hva.toP; have HVA0 := Lib.hid hva; have HB4 := Lib.hid hb4; have u4 : w4.heap[wr.heap.size]? = some (.cells #[(.int .i64 (cAt C k).id), .string (cAt C k).o, .slice xA (cAt C k).away.length xc] 45 (0, 0)) := (hb4.block _ (by have := HZ3.out; omega)).trans HTC.out; have v2 : w4.cell? ⟨wr.heap.size, 2, none⟩ = some (.slice xA (cAt C k).away.length xc) := (by rw [cell_of_row _ _ 2 _ _ (0, 0) u4]; rfl); have vf : w4.frozen? ⟨wr.heap.size, 2, none⟩ = false := (by simp [World.frozen?, u4]); clear hva hg4 hb4 u4 t2) | fail)
      clear v2 vf
      refine gen_world fun w4s hw4s => ?_
      have HW4 := Lib.hid (below_trans HB3.out HB4.out)
      have ht4 : w4.heap[wr.heap.size]? = some (.cells #[(.int .i64 (cAt C k).id), .string (cAt C k).o, .slice xA (cAt C k).away.length xc] 45 (0, 0)) := (HB4.out.block _ (by have := HZ3.out; omega)).trans HTC.out
      have hs4 := HB4.out.size
      have hz3 := HZ3.out
      have ht5 : w4s.heap[wr.heap.size]? = some (.cells #[(.int .i64 (cAt C k).id), .string (cAt C k).o, .slice A' (cAt C k).away.length c'] 45 (0, 0)) := by rw [hw4s]; simp [World.setCell, Array.getElem?_modify, ht4]
      have t0 : w4s.cell? ⟨wr.heap.size, 0, none⟩ = some (.int .i64 (cAt C k).id) := by rw [cell_of_row _ _ 0 _ _ (0, 0) ht5]; rfl
      have t1 : w4s.cell? ⟨wr.heap.size, 1, none⟩ = some (.string (cAt C k).o) := by rw [cell_of_row _ _ 1 _ _ (0, 0) ht5]; rfl
      have t2 : w4s.cell? ⟨wr.heap.size, 2, none⟩ = some (.slice A' (cAt C k).away.length c') := by rw [cell_of_row _ _ 2 _ _ (0, 0) ht5]; rfl
      obtain ⟨X, q1, q2⟩ := HS.out.cs
      obtain ⟨Cx, cx, rfl, -⟩ := q1.toP
      have HQ1 := Lib.hid q1
      have HQ2 := Lib.hid q2
      have HVA := Lib.hid (show ElOwn ES 9 w4 (wr.heap.size + 1) (.slice A' (cAt C k).away.length c') (cAt C k).away from by rw [← hz3]; exact HVA0.out)
      have lo := HS.out.cell.lt
      have lo' : ¬ ox = wr.heap.size := by omega
      have lo2 : ox < w4.heap.size := by omega
      have lt4 : wr.heap.size < w4.heap.size := by omega
      have o0 : w4s.cell? ⟨ox, 0, none⟩ = some (.slice Cx X.length cx) := by
        have hc : DeskCell w4s ox (.slice Cx X.length cx) (.slice none 0 0) := by rw [hw4s]; exact (HS.out.cell.below HW4.out).other _ _ lo'
        exact hc.c0
      have HO4 := Lib.hid (show ElOwn EC 45 w4s w1.heap.size (.slice Cx X.length cx) X from by rw [hw4s]; exact (HQ1.out.below HW4.out).kept (fun j hj => Below.heap_setCell _ _ _ j (fun e => by have e2 : j = wr.heap.size := e; have := (World.ownsRow.lt HQ1.out j hj).2; omega)))
      have hxl : X.length ≤ 1000 := by rw [HQ2.out.len]; simp; omega
      have HSZ4 := Lib.hid (show w4s.heap.size = w4.heap.size from by rw [hw4s]; simp [World.setCell])
      have HW4S := Lib.hid hw4s
      have hle : w1.heap.size ≤ w4.heap.size := by have := HS.out.hb.size; omega
      clear hw4s q1 q2 ht4 ht5 hs4 hz3
      go_wp2_with (first | (at_builtin; refine app_elL EC Try.underlying27 info_cou rfl rfl (.tmp 23) (.tmp 25) rfl (base := w1.heap.size) (w := w4s) (v := .slice Cx X.length cx) (S := X) ⟨(cAt C k).id, (cAt C k).o, A', (cAt C k).away.length, c'⟩ rfl rfl HO4.out w4s.heap.size rfl rfl (by omega) (by omega) (by rw [HSZ4.out]; exact hle) ?_; intro g cap w5 hown5 hg5 hor5; have dc5 : DeskCell w5 ox (.slice Cx X.length cx) (.slice none 0 0) := (hg5.block ox (by rw [HSZ4.out]; exact lo2) (fun e => (HS.out.ne ox e.symm).2 rfl)).trans (by rw [HW4S.out]; exact (Below.heap_setCell _ _ _ ox lo').trans ((HW4.out.block ox lo).trans HS.out.cell)); have d5 := dc5.c0; have f5 := dc5.fz 0; have HO5 := Lib.hid hown5; have HG5 := Lib.hid hg5; have HR5 := Lib.hid hor5; clear hown5 hg5 hor5 dc5) | fail)
      go_roundw
      case rel =>
        refine ⟨k + 1, .slice (some ⟨g, 0, none⟩) (X.length + 1) cap, by omega, by go_num, ?_⟩
        rw [HTK.out]
        exact CpS.more HS.out rfl HW4.out lt4 HVA.out rfl rfl HQ1.out HQ2.out HO5.out (by have := HG5.out; rw [HW4S.out] at this; exact this) (by have := HR5.out; rw [HSZ4.out] at this; exact this)
      case measure => simp [intOf]; omega
    · obtain rfl : C.length = k := by omega
      have hkl : ¬ (C.length : Int) < (C.length : Int) := by omega
      go_upto_region 8 with fail
      clear g0 g1 lg hkl
      have HS0 := Lib.hid (show CpS w1 wr ox v (.slice none 0 0) C [] from by have := HS.out; rw [take_all_c] at this; exact this)
      have g1 := HDR.out.c1
      have lg := HDR.out.lt
      have lo := HS0.out.cell.lt
      have hsz1 := HS0.out.hb.size
      go_upto_region 9 with (first | (at_builtin; refine app_elA EK Try.underlying28 info_case rfl rfl (.const (.slice none 0 0)) (.tmp 29) rfl (base := wr.heap.size) (S := []) (T := K) rfl (ElOwn.nil _ _ _ _) rfl (HKS.out.below HBW.out) (by simp; omega) (by omega) (Nat.le_refl _) ?_; intro vk w5 hvk hg5 hb5; obtain ⟨Bk, ck, rfl, -⟩ := hvk.toP; have HVK := Lib.hid hvk; have HB5 := Lib.hid hb5; have dc5 := HS0.out.cell.below hb5; have d5 := dc5.c1; have f5 := dc5.fz 1; clear hvk hg5 hb5 dc5 g1 lg) | fail)
      refine gen_world fun w6 hw6 => ?_
      have HS6 := Lib.hid (show CpS w1 w6 ox v (.slice Bk K.length ck) (⟨C, K⟩ : DeskD).cs (⟨C, K⟩ : DeskD).ks from by rw [hw6]; exact HS0.out.cases HB5.out HVK.out)
      clear hw6 d5 f5
      have HE := Lib.hid (cop_end (D := ⟨C, K⟩) HS6.out HB1.out (HRC.out.below HS6.out.hb) (by omega) (by have := HOXE.out; have := HOX2.out; omega))
      obtain ⟨X, q1, q2⟩ := HS6.out.cs
      obtain ⟨Cx, cx, rfl, -⟩ := q1.toP
      have o0 := HS6.out.cell.c0
      have o1 := HS6.out.cell.c1
      have r0 := (HRC.out.below HS6.out.hb).c0
      have r1 := (HRC.out.below HS6.out.hb).c1
      have rf0 := (HRC.out.below HS6.out.hb).fz 0
      have rf1 := (HRC.out.below HS6.out.hb).fz 1
      clear q1 q2
      go_wp2_with fail
      exact bodyPost_ret (results_desk rfl _ _ (w.heap.size + 1) rfl HE.out.2) rfl HE.out.1
end Go.Proofs.Ytjckpammcgeloaa
namespace Go.Proofs.Ytjckpammcgeloaa
open Go.RowKit

section
variable {P : Program} {ops : Array Oper} {o : Oper} {a : Act} {K : Act → World → Prop} {Q : Exit → Act → World → Prop} {E : Prop} {w : World}
theorem J_callV (hgd : o.guard = none) (f : FuncId) (x : Operand) (caps : Array Value) (aa : Array Operand) (ts : Array TypeId)
    (ho : o.op = .call { callee := .value x, args := aa, argTypes := ts }) (hx : a.eval x = .func (.func f) #[] caps) (hen : ∀ args w, (callFunc f args).run P w = .ok (.enter f args) w) {vs : Array Value} (hv : aa.map a.eval ++ caps = vs)
    {R : Ending → World → Prop} (hc : Calls P f vs w R) (hK : ∀ e w', R e w' → ∃ v, e = .returned v ∧ K (a.put o.dst v) w') :
    if Region.wanted o (yielded ops a.tmps) = true then Oper.wp P o a w K Q else E := by
  rw [if_pos (by simp [Region.wanted, hgd])]
  have hcc : (execOp a.eval o).run P w = .ok (.enter f vs) w := by
    have h1 : (#[] : Array Value) ++ aa.map a.eval ++ caps = vs := by simpa using hv
    simp only [execOp, ho, resolve, hx, Deferred.ofValue, Sem.run_bind, Sem.run_pure, Result.andThen_ok, invoke]
    first
    | (rw [hv]; exact hen _ _)
    | (rw [h1]; exact hen _ _)
  unfold Oper.wp
  rw [hcc]
  refine Calls.mono hc ?_
  intro e w' hr
  obtain ⟨v, rfl, hk⟩ := hK e w' hr
  exact hk
end
end Go.Proofs.Ytjckpammcgeloaa
namespace Go.Proofs.Ytjckpammcgeloaa
open Go.RowKit

/-- How many cases somebody has. -/
structure TalD where
 id : Int
 l : Int
 n : Int
def ET : El TalD := ⟨3, fun x => [.int .i64 x.id, .int .i64 x.l, .int .i64 x.n], fun _ => rfl, fun _ u h => by simp only [List.mem_cons, List.not_mem_nil, or_false] at h; rcases h with rfl | rfl | rfl <;> rfl, by omega⟩
abbrev talV (x : TalD) : Value := .agg #[.int .i64 x.id, .int .i64 x.l, .int .i64 x.n]
def tAt (L : List TalD) (k : Nat) : TalD := L.getD k ⟨0, 0, 0⟩
theorem tAt_get {L : List TalD} {k : Nat} (h : k < L.length) : L[k]? = some (tAt L k) := by simp [tAt, List.getD_eq_getElem?_getD, h]
theorem info_tal : (Try.prog.info? 85).map (fun i => (i.zero, i.size, i.bytes)) = some (some (.agg #[.int .i64 0, .int .i64 0, .int .i64 0]), 3, 24) := by kernel_rfl
def TalC (w : World) (x : Nat) (a : TalD) : Prop := w.heap[x]? = some (.cells #[.int .i64 a.id, .int .i64 a.l, .int .i64 a.n] 85 (0, 0))
section
variable {w w' : World} {x : Nat} {a : TalD}
theorem TalC.lt (h : TalC w x a) : x < w.heap.size := blk_ltE h
theorem TalC.c0 (h : TalC w x a) : w.cell? ⟨x, 0, none⟩ = some (.int .i64 a.id) := by rw [cell_of_row w x 0 _ _ (0, 0) h]; rfl
theorem TalC.c1 (h : TalC w x a) : w.cell? ⟨x, 1, none⟩ = some (.int .i64 a.l) := by rw [cell_of_row w x 1 _ _ (0, 0) h]; rfl
theorem TalC.c2 (h : TalC w x a) : w.cell? ⟨x, 2, none⟩ = some (.int .i64 a.n) := by rw [cell_of_row w x 2 _ _ (0, 0) h]; rfl
theorem TalC.fz (h : TalC w x a) (j : Nat) : w.frozen? ⟨x, j, none⟩ = false := by unfold TalC at h; simp [World.frozen?, h]
theorem TalC.below (h : TalC w x a) (hb : Below w.heap.size w w') : TalC w' x a := (hb.block x (blk_ltE h)).trans h
theorem TalC.new (a : TalD) (h : x = w.heap.size) : TalC (w.alloc (.cells #[.int .i64 a.id, .int .i64 a.l, .int .i64 a.n] 85)) x a := by subst h; exact heap_alloc_new w _
theorem TalC.fill (h : TalC w x a) (b : TalD) : TalC (((w.setCell ⟨x, 0, none⟩ (.int .i64 b.id)).setCell ⟨x, 1, none⟩ (.int .i64 b.l)).setCell ⟨x, 2, none⟩ (.int .i64 b.n)) x b := by unfold TalC at h ⊢; simp [World.setCell, Array.getElem?_modify, h]
theorem TalC.set1 (h : TalC w x a) (y : Int) : TalC (w.setCell ⟨x, 1, none⟩ (.int .i64 y)) x ⟨a.id, y, a.n⟩ := by unfold TalC at h ⊢; simp [World.setCell, Array.getElem?_modify, h]
theorem TalC.set2 (h : TalC w x a) (y : Int) : TalC (w.setCell ⟨x, 2, none⟩ (.int .i64 y)) x ⟨a.id, a.l, y⟩ := by unfold TalC at h ⊢; simp [World.setCell, Array.getElem?_modify, h]
theorem ld_tal (H : TalC w x a) : (Instr.loadAt 85 (.pointer (some ⟨x, 0, none⟩))).run Try.prog w = .ok (talV a) w := by
 have h0 := H.c0
 have h1 := H.c1
 have h2 := H.c2
 go_simp
theorem ld_tal3 {w0 : World} {b o : Nat} (hb : Below w0.heap.size w0 w) (hl : b < w0.heap.size) (c0 : w0.cell? ⟨b, o, none⟩ = some (.int .i64 a.id)) (c1 : w0.cell? ⟨b, o + 1, none⟩ = some (.int .i64 a.l)) (c2 : w0.cell? ⟨b, o + 2, none⟩ = some (.int .i64 a.n)) : (Instr.loadAt 85 (.pointer (some ⟨b, o, none⟩))).run Try.prog w = .ok (talV a) w := by
 have h0 := (hb.cell hl).trans c0
 have h1 := (hb.cell hl).trans c1
 have h2 := (hb.cell hl).trans c2
 go_simp
end
theorem ElP.tal {P : Nat → Prop} {w : World} {A : Option Addr} {c : Nat} {L : List TalD} (h : ElP ET P w A c L) {k : Nat} (hk : k < L.length) : ∃ b off, A = some ⟨b, off, none⟩ ∧ b < w.heap.size ∧ P b ∧ w.cell? ⟨b, off + k * 3, none⟩ = some (.int .i64 (tAt L k).id) ∧ w.cell? ⟨b, off + k * 3 + 1, none⟩ = some (.int .i64 (tAt L k).l) ∧ w.cell? ⟨b, off + k * 3 + 2, none⟩ = some (.int .i64 (tAt L k).n) := by
 obtain ⟨b, off, e, hlt, hP, hc⟩ := h.one (tAt_get hk)
 exact ⟨b, off, e, hlt, hP, hc 0 (by show 0 < 3; omega), hc 1 (by show 1 < 3; omega), hc 2 (by show 2 < 3; omega)⟩
def cmpI (x y : Int) : Int := if x < y then -1 else if y < x then 1 else 0
theorem isNaN_any (x : Int) (w : World) : Calls Try.prog 67 #[.int .i64 x] w (Ret (.bool false) w) := by
 have h : (x != x) = false := by simp
 go_enter Try.func67, Try.ntmps67
 go_wp2_with fail
 go_ret
 exact Ret.bool rfl
theorem compare_any (x y : Int) (w : World) : Calls Try.prog 59 #[.int .i64 x, .int .i64 y] w (Ret (.int .i64 (cmpI x y)) w) := by
 by_cases h1 : x < y
 ·
  have HV := Lib.hid (show -1 = cmpI x y from by unfold cmpI; rw [if_pos h1])
  go_enter Try.func59, Try.ntmps59
  go_wp2_with fail
  refine ret_pure (isNaN_any x _) ?_
  go_wp2_with fail
  refine ret_pure (isNaN_any y _) ?_
  go_wp2_with fail
  go_ret
  exact Ret.int HV.out
 ·
  by_cases h2 : y < x
  ·
   have HV := Lib.hid (show 1 = cmpI x y from by unfold cmpI; rw [if_neg h1, if_pos h2])
   go_enter Try.func59, Try.ntmps59
   go_wp2_with fail
   refine ret_pure (isNaN_any x _) ?_
   go_wp2_with fail
   refine ret_pure (isNaN_any y _) ?_
   go_wp2_with fail
   go_ret
   exact Ret.int HV.out
  ·
   have HV := Lib.hid (show 0 = cmpI x y from by unfold cmpI; rw [if_neg h1, if_neg h2])
   go_enter Try.func59, Try.ntmps59
   go_wp2_with fail
   refine ret_pure (isNaN_any x _) ?_
   go_wp2_with fail
   refine ret_pure (isNaN_any y _) ?_
   go_wp2_with fail
   go_ret
   exact Ret.int HV.out
def orI (x y z : Int) : Int := if x ≠ 0 then x else if y ≠ 0 then y else z
set_option maxHeartbeats 1000000 in
theorem or_go (A : Option Addr) (L : List Int) (c : Nat) (w : World) (hL : IntsAt w A L) (hl : L.length ≤ 1000) :
  Calls Try.prog 58 #[.slice A L.length c] w (fun e w' => w' = w ∧ ((∃ k, k < L.length ∧ e = .returned (.int .i64 (nth L k)) ∧ nth L k ≠ 0 ∧ ∀ j, j < k → nth L j = 0) ∨ (e = .returned (.int .i64 0) ∧ ∀ j, j < L.length → nth L j = 0))) := by
 have HL := Lib.hid hL
 clear hL
 go_enter Try.func58, Try.ntmps58
 go_wp2_with fail
 go_loop [8] (fun i => ∃ k : Nat, k ≤ L.length ∧ i = .int .i64 k ∧ ∀ j, j < k → nth L j = 0) (fun i => L.length - (intOf i).toNat)
 case atStart => exact ⟨0, Nat.zero_le _, rfl, fun j hj => absurd hj (by omega)⟩
 case round =>
  obtain ⟨k, hk, rfl, hp⟩ := hrel
  have HP := Lib.hid hp
  clear hp
  by_cases hlt : k < L.length
  ·
   obtain ⟨b, off, rfl, hbl, c1⟩ := HL.out k hlt
   have hk0 : (0 : Int) ≤ (k : Int) := by omega
   have hkl : (k : Int) < (L.length : Int) := by omega
   by_cases hz : nth L k = 0
   ·
    have HZ := Lib.hid hz
    have hn : (nth L k != 0) = false := by simp [hz]
    clear hz
    go_wp2_with fail
    go_round
    case rel =>
     refine ⟨k + 1, by omega, by go_num, fun j hj => ?_⟩
     by_cases hjk : j = k
     ·
      subst hjk; exact HZ.out
     ·
      exact HP.out j (by omega)
    case measure => simp [intOf]; omega
   ·
    have HZ := Lib.hid (show ∃ k, k < L.length ∧ Ending.returned (.int .i64 (nth L k)) = .returned (.int .i64 (nth L k)) ∧ nth L k ≠ 0 ∧ ∀ j, j < k → nth L j = 0 from ⟨k, hlt, rfl, hz, HP.out⟩)
    have HQ := Lib.hid (show ∃ k', k' < L.length ∧ Ending.returned (.int .i64 (nth L k)) = .returned (.int .i64 (nth L k')) ∧ nth L k' ≠ 0 ∧ ∀ j, j < k' → nth L j = 0 from ⟨k, hlt, rfl, hz, HP.out⟩)
    have hn : (nth L k != 0) = true := by simp [hz]
    clear hz HZ
    go_wp2_with fail
    go_ret
    exact ⟨rfl, .inl HQ.out⟩
  ·
   have HQ := Lib.hid (show ∀ j, j < L.length → nth L j = 0 from fun j hj => HP.out j (by omega))
   go_wp2_with fail
   go_ret
   exact ⟨rfl, .inr ⟨rfl, HQ.out⟩⟩
theorem or3_any (g : Nat) (x y z : Int) (w : World) (hg : w.heap[g]? = some (.cells #[.int .i64 x, .int .i64 y, .int .i64 z] 3 (0, 0))) :
  Calls Try.prog 58 #[.slice (some ⟨g, 0, none⟩) 3 3] w (Ret (.int .i64 (orI x y z)) w) := by
 refine (or_go (some ⟨g, 0, none⟩) [x, y, z] 3 w (IntBlk.ints (show IntBlk w g [x, y, z] from hg)) (by simp)).mono ?_
 rintro e w' ⟨rfl, ⟨k, hk, rfl, hz, hp⟩ | ⟨rfl, hp⟩⟩
 ·
  refine Ret.int ?_
  have : k = 0 ∨ k = 1 ∨ k = 2 := by simp at hk; omega
  rcases this with rfl | rfl | rfl
  ·
   unfold orI; rw [if_pos (show x ≠ 0 from hz)]; rfl
  ·
   have h0 : x = 0 := hp 0 (by omega)
   unfold orI; rw [if_neg (by simp [h0]), if_pos (show y ≠ 0 from hz)]; rfl
  ·
   have h0 : x = 0 := hp 0 (by omega)
   have h1 : y = 0 := hp 1 (by omega)
   unfold orI; rw [if_neg (by simp [h0]), if_neg (by simp [h1])]; rfl
 ·
  have h0 : x = 0 := hp 0 (by simp)
  have h1 : y = 0 := hp 1 (by simp)
  have h2 : z = 0 := hp 2 (by simp)
  refine Ret.int ?_
  unfold orI; rw [if_neg (by simp [h0]), if_neg (by simp [h1]), h2]
/-- Which of two comes first. -/
def tcmp (a b : TalD) : Int := orI (cmpI a.l b.l) (cmpI a.n b.n) (cmpI a.id b.id)
theorem bs3 (w : World) (x y z : Int) : (Instr.buildSlice 22 3 #[(0, .int .i64 x), (1, .int .i64 y), (2, .int .i64 z)]).run Try.prog w = .ok (.slice (some ⟨w.heap.size, 0, none⟩) 3 3) (w.alloc (.cells #[.int .i64 x, .int .i64 y, .int .i64 z] 3)) := by go_simp
theorem enter_cmp (args : Array Value) (w : World) : (callFunc 59 args).run Try.prog w = .ok (.enter 59 args) w :=
 Go.MuLone.run_callFunc_enter Try.func59 (by kernel_rfl) rfl args w
theorem enter_or (args : Array Value) (w : World) : (callFunc 58 args).run Try.prog w = .ok (.enter 58 args) w :=
 Go.MuLone.run_callFunc_enter Try.func58 (by kernel_rfl) rfl args w
theorem enter_ch2 (args : Array Value) (w : World) : (callFunc 57 args).run Try.prog w = .ok (.enter 57 args) w :=
 Go.MuLone.run_callFunc_enter Try.func57 (by kernel_rfl) rfl args w
def ch2PL (W0 : World) (xa xb : Nat) (ta tb : TalD) : List (Pr Bl) := [Pr.eq (.pointer (some ⟨xa, 1, none⟩)), Pr.eq (.int .i64 ta.l), Pr.eq (.pointer (some ⟨xb, 1, none⟩)), Pr.eq (.int .i64 tb.l), Pr.eq (.int .i64 (cmpI ta.l tb.l)), Pr.eq (.pointer (some ⟨xa, 2, none⟩)), Pr.eq (.int .i64 ta.n), Pr.eq (.pointer (some ⟨xb, 2, none⟩)), Pr.eq (.int .i64 tb.n), Pr.eq (.int .i64 (cmpI ta.n tb.n)), Pr.eq (.pointer (some ⟨xa, 0, none⟩)), Pr.eq (.int .i64 ta.id), Pr.eq (.pointer (some ⟨xb, 0, none⟩)), Pr.eq (.int .i64 tb.id), Pr.eq (.int .i64 (cmpI ta.id tb.id)), Pr.lit W0.heap.size 3 #[.int .i64 (cmpI ta.l tb.l), .int .i64 (cmpI ta.n tb.n), .int .i64 (cmpI ta.id tb.id)] 3, Pr.eq (.int .i64 (orI (cmpI ta.l tb.l) (cmpI ta.n tb.n) (cmpI ta.id tb.id))), Pr.eq (.int .i64 (orI (cmpI ta.l tb.l) (cmpI ta.n tb.n) (cmpI ta.id tb.id)))]
set_option maxRecDepth 100000 in
set_option maxHeartbeats 2000000 in
theorem ch2_any (ta tb : TalD) (w : World) : Calls Try.prog 57 #[talV ta, talV tb] w (RetB (.int .i64 (tcmp ta tb)) w) := by
 go_enter Try.func57, Try.ntmps57
 go_wp2_with fail
 refine gen_world fun w0 hw0 => ?_
 have hb0 : Below w.heap.size w w0 := by rw [hw0]; exact bl_alloc _ (below_alloc _ _)
 have HA := Lib.hid (show TalC w0 w.heap.size ta from by rw [hw0]; exact (TalC.new ta rfl).below (below_alloc _ _))
 have HBB := Lib.hid (show TalC w0 (w.heap.size + 1) tb from by rw [hw0]; exact TalC.new tb (by simp))
 clear hw0
 refine wp_region_J2 (GI (ch2PL w0 w.heap.size (w.heap.size + 1) ta tb) (GrS w0)) (by kernel_rfl) (by kernel_rfl) (by kernel_rfl) ?_ ?_ ?_
 case refine_1 => exact fun V => GI.start (GrS.start _ _ _)
 case refine_2 =>
  refine .cons (fun V Ld a W hLi hpre hR hI KK hK => ?_) ?_
  ·
   have o2 := (hR.old 2 (by kernel_rfl)).trans (show _ = Value.pointer (some ⟨w.heap.size, 0, none⟩) from rfl)
   exact J_fieldAddr rfl _ (.tmp 2) 1 rfl (by rw [o2]; go_simp) (hI.u0 hK rfl)
  refine .cons (fun V Ld a W hLi hpre hR hI KK hK => ?_) ?_
  ·
   have f0 := hI.ef hR hpre 0 rfl rfl rfl (by kernel_rfl)
   have c0 := (hI.st.bl.cell HA.out.lt).trans HA.out.c1
   exact J_load rfl _ (.tmp 5) rfl (by rw [f0]; go_simp) (hI.u0 hK rfl)
  refine .cons (fun V Ld a W hLi hpre hR hI KK hK => ?_) ?_
  ·
   have o3 := (hR.old 3 (by kernel_rfl)).trans (show _ = Value.pointer (some ⟨w.heap.size + 1, 0, none⟩) from rfl)
   exact J_fieldAddr rfl _ (.tmp 3) 1 rfl (by rw [o3]; go_simp) (hI.u0 hK rfl)
  refine .cons (fun V Ld a W hLi hpre hR hI KK hK => ?_) ?_
  ·
   have f2 := hI.ef hR hpre 2 rfl rfl rfl (by kernel_rfl)
   have c0 := (hI.st.bl.cell HBB.out.lt).trans HBB.out.c1
   exact J_load rfl _ (.tmp 7) rfl (by rw [f2]; go_simp) (hI.u0 hK rfl)
  refine .cons (fun V Ld a W hLi hpre hR hI KK hK => ?_) ?_
  ·
   have f1 := hI.ef hR hpre 1 rfl rfl rfl (by kernel_rfl)
   have f3 := hI.ef hR hpre 3 rfl rfl rfl (by kernel_rfl)
   refine J_call rfl _ _ _ rfl enter_cmp (by simp only [List.map_toArray, List.map_cons, List.map_nil, f1, f3]) (compare_any ta.l tb.l W) ?_
   rintro e w' ⟨rfl, rfl⟩
   exact ⟨_, rfl, (hI.u0 hK rfl)⟩
  refine .cons (fun V Ld a W hLi hpre hR hI KK hK => ?_) ?_
  ·
   have o2 := (hR.old 2 (by kernel_rfl)).trans (show _ = Value.pointer (some ⟨w.heap.size, 0, none⟩) from rfl)
   exact J_fieldAddr rfl _ (.tmp 2) 2 rfl (by rw [o2]; go_simp) (hI.u0 hK rfl)
  refine .cons (fun V Ld a W hLi hpre hR hI KK hK => ?_) ?_
  ·
   have f5 := hI.ef hR hpre 5 rfl rfl rfl (by kernel_rfl)
   have c0 := (hI.st.bl.cell HA.out.lt).trans HA.out.c2
   exact J_load rfl _ (.tmp 10) rfl (by rw [f5]; go_simp) (hI.u0 hK rfl)
  refine .cons (fun V Ld a W hLi hpre hR hI KK hK => ?_) ?_
  ·
   have o3 := (hR.old 3 (by kernel_rfl)).trans (show _ = Value.pointer (some ⟨w.heap.size + 1, 0, none⟩) from rfl)
   exact J_fieldAddr rfl _ (.tmp 3) 2 rfl (by rw [o3]; go_simp) (hI.u0 hK rfl)
  refine .cons (fun V Ld a W hLi hpre hR hI KK hK => ?_) ?_
  ·
   have f7 := hI.ef hR hpre 7 rfl rfl rfl (by kernel_rfl)
   have c0 := (hI.st.bl.cell HBB.out.lt).trans HBB.out.c2
   exact J_load rfl _ (.tmp 12) rfl (by rw [f7]; go_simp) (hI.u0 hK rfl)
  refine .cons (fun V Ld a W hLi hpre hR hI KK hK => ?_) ?_
  ·
   have f6 := hI.ef hR hpre 6 rfl rfl rfl (by kernel_rfl)
   have f8 := hI.ef hR hpre 8 rfl rfl rfl (by kernel_rfl)
   refine J_call rfl _ _ _ rfl enter_cmp (by simp only [List.map_toArray, List.map_cons, List.map_nil, f6, f8]) (compare_any ta.n tb.n W) ?_
   rintro e w' ⟨rfl, rfl⟩
   exact ⟨_, rfl, (hI.u0 hK rfl)⟩
  refine .cons (fun V Ld a W hLi hpre hR hI KK hK => ?_) ?_
  ·
   have o2 := (hR.old 2 (by kernel_rfl)).trans (show _ = Value.pointer (some ⟨w.heap.size, 0, none⟩) from rfl)
   exact J_fieldAddr rfl _ (.tmp 2) 0 rfl (by rw [o2]; go_simp) (hI.u0 hK rfl)
  refine .cons (fun V Ld a W hLi hpre hR hI KK hK => ?_) ?_
  ·
   have f10 := hI.ef hR hpre 10 rfl rfl rfl (by kernel_rfl)
   have c0 := (hI.st.bl.cell HA.out.lt).trans HA.out.c0
   exact J_load rfl _ (.tmp 15) rfl (by rw [f10]; go_simp) (hI.u0 hK rfl)
  refine .cons (fun V Ld a W hLi hpre hR hI KK hK => ?_) ?_
  ·
   have o3 := (hR.old 3 (by kernel_rfl)).trans (show _ = Value.pointer (some ⟨w.heap.size + 1, 0, none⟩) from rfl)
   exact J_fieldAddr rfl _ (.tmp 3) 0 rfl (by rw [o3]; go_simp) (hI.u0 hK rfl)
  refine .cons (fun V Ld a W hLi hpre hR hI KK hK => ?_) ?_
  ·
   have f12 := hI.ef hR hpre 12 rfl rfl rfl (by kernel_rfl)
   have c0 := (hI.st.bl.cell HBB.out.lt).trans HBB.out.c0
   exact J_load rfl _ (.tmp 17) rfl (by rw [f12]; go_simp) (hI.u0 hK rfl)
  refine .cons (fun V Ld a W hLi hpre hR hI KK hK => ?_) ?_
  ·
   have f11 := hI.ef hR hpre 11 rfl rfl rfl (by kernel_rfl)
   have f13 := hI.ef hR hpre 13 rfl rfl rfl (by kernel_rfl)
   refine J_call rfl _ _ _ rfl enter_cmp (by simp only [List.map_toArray, List.map_cons, List.map_nil, f11, f13]) (compare_any ta.id tb.id W) ?_
   rintro e w' ⟨rfl, rfl⟩
   exact ⟨_, rfl, (hI.u0 hK rfl)⟩
  refine .cons (fun V Ld a W hLi hpre hR hI KK hK => ?_) ?_
  ·
   have f4 := hI.ef hR hpre 4 rfl rfl rfl (by kernel_rfl)
   have f9 := hI.ef hR hpre 9 rfl rfl rfl (by kernel_rfl)
   have f14 := hI.ef hR hpre 14 rfl rfl rfl (by kernel_rfl)
   exact J_buildSlice rfl _ 3 _ rfl (by simp only [List.map_toArray, List.map_cons, List.map_nil, f4, f9, f14]; exact bs3 W _ _ _) (hK _ _ (hI.put (R := Bl) (below_alloc W _) 15 rfl ⟨_, rfl, hI.st.bl.size, heap_alloc_new _ _⟩ (hI.st.to (below_alloc W _))))
  refine .cons (fun V Ld a W hLi hpre hR hI KK hK => ?_) ?_
  ·
   have p15 := pm hpre 15 (by kernel_rfl)
   obtain ⟨g, eg, lg, hg⟩ := hI.val 15 _ rfl p15
   have f15 := (hR.ev 15 rfl rfl p15).trans eg
   refine J_call rfl _ _ _ rfl enter_or (by simp only [List.map_toArray, List.map_cons, List.map_nil, f15]) (or3_any g _ _ _ W hg) ?_
   rintro e w' ⟨rfl, rfl⟩
   exact ⟨_, rfl, (hI.u0 hK rfl)⟩
  refine .cons (fun V Ld a W hLi hpre hR hI KK hK => ?_) trivial
  ·
   have f16 := hI.ef hR hpre 16 rfl rfl rfl (by kernel_rfl)
   exact G_assign rfl (.tmp 21) rfl f16 (hI.u0 hK rfl)
 case refine_3 =>
  intro V Ld w9 hLd hI
  have e9 : V 17 = .int .i64 (tcmp ta tb) := hI.val 17 _ rfl (hLd 17 (by decide))
  have hb9 := below_trans hb0 hI.st.bl
  clear hI hLd
  simp only [finL, putL, Act.put, Nat.reduceAdd]
  rw [e9]
  simp only [List.setIfInBounds_toArray, List.set_cons_succ, List.set_cons_zero]
  go_wp2_with fail
  go_ret
  exact RetB.int rfl hb9
/-- The first least one of the first k + 1. -/
def minK (L : List TalD) : Nat → TalD
 | 0 => tAt L 0
 | k + 1 => if tcmp (tAt L (k + 1)) (minK L k) < 0 then tAt L (k + 1) else minK L k
def RetT (a : TalD) (w : World) (e : Ending) (w' : World) : Prop := e = .returned (talV a) ∧ Below w.heap.size w w'
theorem results_tal {fn : Func} {t : Tmp} (h : fn.results = #[.cell t 85]) (tmps : Array Value) (w : World) (g : Nat) (hp : tmps.getD t undef = .pointer (some ⟨g, 0, none⟩)) {a : TalD} (hX : TalC w g a) :
  (results fn tmps).run Try.prog w = .ok (talV a) w :=
 results_cell_row h tmps w g 85 _ (0, 0) _ hp hX Try.underlying85 rfl (by kernel_rfl)
theorem below_fill {w w0 : World} {x B : Nat} {a : TalD} (h : Below B w w0) (hx : B ≤ x) : Below B w (((w0.setCell ⟨x, 0, none⟩ (.int .i64 a.id)).setCell ⟨x, 1, none⟩ (.int .i64 a.l)).setCell ⟨x, 2, none⟩ (.int .i64 a.n)) := below_set (below_set (below_set h _ _ hx) _ _ hx) _ _ hx
theorem TalC.other3 {w0 : World} {x y : Nat} {a b : TalD} (h : TalC w0 y b) (hy : y ≠ x) : TalC (((w0.setCell ⟨x, 0, none⟩ (.int .i64 a.id)).setCell ⟨x, 1, none⟩ (.int .i64 a.l)).setCell ⟨x, 2, none⟩ (.int .i64 a.n)) y b := (Below.heap_setCell _ _ _ y hy).trans ((Below.heap_setCell _ _ _ y hy).trans ((Below.heap_setCell _ _ _ y hy).trans h))
set_option maxRecDepth 100000 in
set_option maxHeartbeats 4000000 in
theorem minFunc_any {P : Nat → Prop} (A : Option Addr) (L : List TalD) (c : Nat) (w : World) (hL : ElP ET P w A c L) (hl : L.length ≤ 10000) (h0 : 0 < L.length) :
  Calls Try.prog 56 #[.slice A L.length c, .func (.func 57) #[] #[]] w (RetT (minK L (L.length - 1)) w) := by
 have HL := Lib.hid hL
 have n1 : ¬ (L.length : Int) < 1 := by omega
 clear hL
 obtain ⟨b, off, rfl, hbl, -, c0, c1, c2⟩ := HL.out.tal h0
 have i1 : (0 : Int) < (L.length : Int) := by omega
 simp only [Nat.zero_mul, Nat.add_zero] at c0 c1 c2
 go_enter Try.func56, Try.ntmps56
 go_wp2_with fail
 refine gen_world fun wh hwh => ?_
 have HBH := Lib.hid (show Below w.heap.size w wh from by rw [hwh]; exact bl_alloc _ (below_alloc _ _))
 have HRC := Lib.hid (show TalC wh w.heap.size ⟨0, 0, 0⟩ from by rw [hwh]; exact (TalC.new ⟨0, 0, 0⟩ rfl).below (below_alloc _ _))
 have HTH := Lib.hid (show TalC wh (w.heap.size + 1) (minK L 0) from by rw [hwh]; exact TalC.new (minK L 0) (by simp))
 clear hwh c0 c1 c2
 generalize hrx : w.heap.size = rx at *
 have HRX := Lib.hid hrx
 clear hrx
 go_loopw [6] (fun i wr => ∃ k : Nat, k < L.length ∧ i = .int .i64 ((k + 1 : Nat) : Int) ∧ TalC wr (rx + 1) (minK L k) ∧ TalC wr rx ⟨0, 0, 0⟩ ∧ Below rx w wr) (fun i _ => L.length - (intOf i).toNat)
 case atStart => exact ⟨0, h0, rfl, HTH.out, HRC.out, HBH.out⟩
 case round =>
  obtain ⟨k, hk, rfl, hT, hR, hbr⟩ := hrel
  have HTB := Lib.hid hT
  have HR := Lib.hid hR
  have HBR := Lib.hid hbr
  clear hT hR
  by_cases hlt : k + 1 < L.length
  ·
   obtain ⟨b', off', e', hbl', -, d0, d1, d2⟩ := (HL.out.below (by rw [HRX.out]; exact hbr)).tal hlt
   obtain ⟨rfl, rfl⟩ : b = b' ∧ off = off' := by injection e' with e'; injection e' with e1 e2; exact ⟨e1, e2⟩
   have C0 := Lib.hid d0
   have C1 := Lib.hid d1
   have C2 := Lib.hid d2
   have LB := Lib.hid hbl'
   have i2 : ((k + 1 : Nat) : Int) < (L.length : Int) := by omega
   have i3 : (0 : Int) ≤ ((k + 1 : Nat) : Int) := by omega
   clear e' d0 d1 d2 hbr
   by_cases q : tcmp (tAt L (k + 1)) (minK L k) < 0
   ·
    have NEG := Lib.hid q
    have HN := Lib.hid (show minK L (k + 1) = tAt L (k + 1) from by show (if _ then _ else _) = _; rw [if_pos q])
    clear q
    go_wp2_with fail
    refine gen_world fun w0 hw0 => ?_
    obtain rfl : wr = w0 := hw0.symm
    clear hw0
    refine wp_region_J2 (GI (R := Bl) [Pr.eq (.func (.func 57) #[] #[]), Pr.eq (.slice (some ⟨b, off, none⟩) L.length c), Pr.eq (.int .i64 (((k + 1 : Nat) : Int))), Pr.eq (.pointer (some ⟨b, off + (k + 1) * 3, none⟩)), Pr.eq (talV (tAt L (k + 1))), Pr.eq (talV (minK L k)), Pr.eq (.int .i64 (tcmp (tAt L (k + 1)) (minK L k))), Pr.eq (.bool true)] (GrS wr)) (by kernel_rfl) (by kernel_rfl) (by kernel_rfl) ?_ ?_ ?_
    case refine_1 => exact fun V => GI.start (GrS.start _ _ _)
    case refine_2 =>
     refine .cons (fun V Ld a W hLi hpre hR hI KK hK => ?_) ?_
     ·
      have o1 := (hR.old 1 (by kernel_rfl)).trans (show _ = Value.func (.func 57) #[] #[] from rfl)
      exact G_move rfl (.tmp 1) rfl o1 (hI.u0 hK rfl)
     refine .cons (fun V Ld a W hLi hpre hR hI KK hK => ?_) ?_
     ·
      have o0 := (hR.old 0 (by kernel_rfl)).trans (show _ = Value.slice (some ⟨b, off, none⟩) L.length c from rfl)
      exact G_move rfl (.tmp 0) rfl o0 (hI.u0 hK rfl)
     refine .cons (fun V Ld a W hLi hpre hR hI KK hK => ?_) ?_
     ·
      have o6 := (hR.old 6 (by kernel_rfl)).trans (show _ = Value.int .i64 (((k + 1 : Nat) : Int)) from rfl)
      exact G_move rfl (.tmp 6) rfl o6 (hI.u0 hK rfl)
     refine .cons (fun V Ld a W hLi hpre hR hI KK hK => ?_) ?_
     ·
      have f1 := hI.ef hR hpre 1 rfl rfl rfl (by kernel_rfl)
      have f2 := hI.ef hR hpre 2 rfl rfl rfl (by kernel_rfl)
      exact J_indexAddr rfl _ (.tmp 21) (.tmp 22) rfl (by rw [f1, f2]; go_simp <;> (intro h; omega)) (hI.u0 hK rfl)
     refine .cons (fun V Ld a W hLi hpre hR hI KK hK => ?_) ?_
     ·
      have f3 := hI.ef hR hpre 3 rfl rfl rfl (by kernel_rfl)
      exact J_load rfl _ (.tmp 23) rfl (by rw [f3]; exact ld_tal3 (hI.st.bl) LB.out C0.out C1.out C2.out) (hI.u0 hK rfl)
     refine .cons (fun V Ld a W hLi hpre hR hI KK hK => ?_) ?_
     ·
      have o5 := (hR.old 5 (by kernel_rfl)).trans (show _ = Value.pointer (some ⟨rx + 1, 0, none⟩) from rfl)
      exact J_load rfl _ (.tmp 5) rfl (by rw [o5]; exact ld_tal (HTB.out.below hI.st.bl)) (hI.u0 hK rfl)
     refine .cons (fun V Ld a W hLi hpre hR hI KK hK => ?_) ?_
     ·
      have f4 := hI.ef hR hpre 4 rfl rfl rfl (by kernel_rfl)
      have f5 := hI.ef hR hpre 5 rfl rfl rfl (by kernel_rfl)
      have f0 := hI.ef hR hpre 0 rfl rfl rfl (by kernel_rfl)
      refine J_callV rfl _ (.tmp 20) _ _ _ rfl f0 enter_ch2 (by simp only [List.map_toArray, List.map_cons, List.map_nil, f4, f5]; rfl) (ch2_any (tAt L (k + 1)) (minK L k) W) ?_
      rintro e w' ⟨rfl, hb⟩
      exact ⟨_, rfl, hK _ _ (hI.put (R := Bl) hb 6 rfl rfl (hI.st.to hb))⟩
     refine .cons (fun V Ld a W hLi hpre hR hI KK hK => ?_) trivial
     ·
      have f6 := hI.ef hR hpre 6 rfl rfl rfl (by kernel_rfl)
      exact J_binOp rfl .lss _ (.tmp 26) (.const (.int .i64 0)) _ rfl (by rw [f6]; exact bt_lss _ _ _ _ W NEG.out) (hI.u0 hK rfl)
    case refine_3 =>
     intro V Ld w9 hLd hI
     have e9 : V 7 = .bool true := hI.val 7 _ rfl (hLd 7 (by decide))
     have hb9 := hI.st.bl
     clear hI hLd
     simp only [finL, putL, Act.put, Nat.reduceAdd]
     rw [e9]
     clear e9
     generalize V 0 = v0, V 1 = v1
     generalize V 2 = v2, V 3 = v3
     generalize V 4 = v4, V 5 = v5, V 6 = v6
     clear V
     simp only [List.setIfInBounds_toArray, List.set_cons_succ, List.set_cons_zero]
     have HTB9 := Lib.hid (HTB.out.below hb9)
     have HR9 := Lib.hid (HR.out.below hb9)
     have z0 := (hb9.cell LB.out).trans C0.out
     have z1 := (hb9.cell LB.out).trans C1.out
     have z2 := (hb9.cell LB.out).trans C2.out
     have u0 := HTB9.out.c0
     have u1 := HTB9.out.c1
     have u2 := HTB9.out.c2
     have g0 := HTB9.out.fz 0
     have g1 := HTB9.out.fz 1
     have g2 := HTB9.out.fz 2
     have HB9 := Lib.hid (HBR.out.trans (hb9.mono (by have := HR.out.lt; omega)))
     clear hb9
     go_wp2_with fail
     go_roundw
     case rel => exact ⟨k + 1, by omega, by go_num, by rw [HN.out]; exact HTB9.out.fill _, HR9.out.other3 (by omega), below_fill HB9.out (by omega)⟩
     case measure => simp [intOf]; omega
   ·
    have NEG := Lib.hid (show (0 : Int) ≤ tcmp (tAt L (k + 1)) (minK L k) by omega)
    have HN := Lib.hid (show minK L (k + 1) = minK L k from by show (if _ then _ else _) = _; rw [if_neg q])
    clear q
    go_wp2_with fail
    refine gen_world fun w0 hw0 => ?_
    obtain rfl : wr = w0 := hw0.symm
    clear hw0
    refine wp_region_J2 (GI (R := Bl) [Pr.eq (.func (.func 57) #[] #[]), Pr.eq (.slice (some ⟨b, off, none⟩) L.length c), Pr.eq (.int .i64 (((k + 1 : Nat) : Int))), Pr.eq (.pointer (some ⟨b, off + (k + 1) * 3, none⟩)), Pr.eq (talV (tAt L (k + 1))), Pr.eq (talV (minK L k)), Pr.eq (.int .i64 (tcmp (tAt L (k + 1)) (minK L k))), Pr.eq (.bool false)] (GrS wr)) (by kernel_rfl) (by kernel_rfl) (by kernel_rfl) ?_ ?_ ?_
    case refine_1 => exact fun V => GI.start (GrS.start _ _ _)
    case refine_2 =>
     refine .cons (fun V Ld a W hLi hpre hR hI KK hK => ?_) ?_
     ·
      have o1 := (hR.old 1 (by kernel_rfl)).trans (show _ = Value.func (.func 57) #[] #[] from rfl)
      exact G_move rfl (.tmp 1) rfl o1 (hI.u0 hK rfl)
     refine .cons (fun V Ld a W hLi hpre hR hI KK hK => ?_) ?_
     ·
      have o0 := (hR.old 0 (by kernel_rfl)).trans (show _ = Value.slice (some ⟨b, off, none⟩) L.length c from rfl)
      exact G_move rfl (.tmp 0) rfl o0 (hI.u0 hK rfl)
     refine .cons (fun V Ld a W hLi hpre hR hI KK hK => ?_) ?_
     ·
      have o6 := (hR.old 6 (by kernel_rfl)).trans (show _ = Value.int .i64 (((k + 1 : Nat) : Int)) from rfl)
      exact G_move rfl (.tmp 6) rfl o6 (hI.u0 hK rfl)
     refine .cons (fun V Ld a W hLi hpre hR hI KK hK => ?_) ?_
     ·
      have f1 := hI.ef hR hpre 1 rfl rfl rfl (by kernel_rfl)
      have f2 := hI.ef hR hpre 2 rfl rfl rfl (by kernel_rfl)
      exact J_indexAddr rfl _ (.tmp 21) (.tmp 22) rfl (by rw [f1, f2]; go_simp <;> (intro h; omega)) (hI.u0 hK rfl)
     refine .cons (fun V Ld a W hLi hpre hR hI KK hK => ?_) ?_
     ·
      have f3 := hI.ef hR hpre 3 rfl rfl rfl (by kernel_rfl)
      exact J_load rfl _ (.tmp 23) rfl (by rw [f3]; exact ld_tal3 (hI.st.bl) LB.out C0.out C1.out C2.out) (hI.u0 hK rfl)
     refine .cons (fun V Ld a W hLi hpre hR hI KK hK => ?_) ?_
     ·
      have o5 := (hR.old 5 (by kernel_rfl)).trans (show _ = Value.pointer (some ⟨rx + 1, 0, none⟩) from rfl)
      exact J_load rfl _ (.tmp 5) rfl (by rw [o5]; exact ld_tal (HTB.out.below hI.st.bl)) (hI.u0 hK rfl)
     refine .cons (fun V Ld a W hLi hpre hR hI KK hK => ?_) ?_
     ·
      have f4 := hI.ef hR hpre 4 rfl rfl rfl (by kernel_rfl)
      have f5 := hI.ef hR hpre 5 rfl rfl rfl (by kernel_rfl)
      have f0 := hI.ef hR hpre 0 rfl rfl rfl (by kernel_rfl)
      refine J_callV rfl _ (.tmp 20) _ _ _ rfl f0 enter_ch2 (by simp only [List.map_toArray, List.map_cons, List.map_nil, f4, f5]; rfl) (ch2_any (tAt L (k + 1)) (minK L k) W) ?_
      rintro e w' ⟨rfl, hb⟩
      exact ⟨_, rfl, hK _ _ (hI.put (R := Bl) hb 6 rfl rfl (hI.st.to hb))⟩
     refine .cons (fun V Ld a W hLi hpre hR hI KK hK => ?_) trivial
     ·
      have f6 := hI.ef hR hpre 6 rfl rfl rfl (by kernel_rfl)
      exact J_binOp rfl .lss _ (.tmp 26) (.const (.int .i64 0)) _ rfl (by rw [f6]; exact bf_lss _ _ _ _ W NEG.out) (hI.u0 hK rfl)
    case refine_3 =>
     intro V Ld w9 hLd hI
     have e9 : V 7 = .bool false := hI.val 7 _ rfl (hLd 7 (by decide))
     have hb9 := hI.st.bl
     clear hI hLd
     simp only [finL, putL, Act.put, Nat.reduceAdd]
     rw [e9]
     clear e9
     generalize V 0 = v0, V 1 = v1
     generalize V 2 = v2, V 3 = v3
     generalize V 4 = v4, V 5 = v5, V 6 = v6
     clear V
     simp only [List.setIfInBounds_toArray, List.set_cons_succ, List.set_cons_zero]
     have HTB9 := Lib.hid (HTB.out.below hb9)
     have HR9 := Lib.hid (HR.out.below hb9)
     have HB9 := Lib.hid (HBR.out.trans (hb9.mono (by have := HR.out.lt; omega)))
     clear hb9
     go_wp2_with fail
     go_roundw
     case rel => exact ⟨k + 1, by omega, by go_num, by rw [HN.out]; exact HTB9.out, HR9.out, HB9.out⟩
     case measure => simp [intOf]; omega
  ·
   have hkl : k = L.length - 1 := by omega
   have HT2 := Lib.hid (show TalC wr (rx + 1) (minK L (L.length - 1)) from by rw [← hkl]; exact HTB.out)
   have i2 : ¬ ((k + 1 : Nat) : Int) < (L.length : Int) := by omega
   clear hkl
   have HE := Lib.hid (HR.out.fill (minK L (L.length - 1)))
   have HEB := Lib.hid (below_fill (a := minK L (L.length - 1)) hbr (Nat.le_refl rx))
   have u0 := HT2.out.c0
   have u1 := HT2.out.c1
   have u2 := HT2.out.c2
   have r0 := HR.out.c0
   have r1 := HR.out.c1
   have r2 := HR.out.c2
   have g0 := HR.out.fz 0
   have g1 := HR.out.fz 1
   have g2 := HR.out.fz 2
   go_wp2_with fail
   exact bodyPost_ret (results_tal rfl _ _ rx rfl HE.out) rfl ⟨rfl, by rw [HRX.out]; exact HEB.out⟩
end Go.Proofs.Ytjckpammcgeloaa
namespace Go.Proofs.Ytjckpammcgeloaa
open Go.RowKit

def ofC (id : Int) (x : CaseD) : Bool := x.c == id
def unC (id : Int) (x : CaseD) : Bool := (x.c == id) && !x.s
def casN (K : List CaseD) (id : Int) : Nat := K.countP (ofC id)
def loadN (K : List CaseD) (id : Int) : Nat := K.countP (unC id)
def unseenL (K : List CaseD) (id : Int) : List CaseD := K.filter (unC id)
theorem unseen_len (K : List CaseD) (id : Int) : (unseenL K id).length = loadN K id := (List.countP_eq_length_filter ..).symm
theorem casN_take {K : List CaseD} {id : Int} {k : Nat} (h : k < K.length) : casN (K.take (k + 1)) id = casN (K.take k) id + if (kAt K k).c == id then 1 else 0 := by
  unfold casN; rw [take_k h, List.countP_append, List.countP_singleton]; rfl
theorem loadN_take {K : List CaseD} {id : Int} {k : Nat} (h : k < K.length) : loadN (K.take (k + 1)) id = loadN (K.take k) id + if unC id (kAt K k) = true then 1 else 0 := by
  unfold loadN; rw [take_k h, List.countP_append, List.countP_singleton]
theorem casN_le (K : List CaseD) (id : Int) (k : Nat) : casN (K.take k) id ≤ K.length := Nat.le_trans (List.countP_le_length ..) (by rw [List.length_take]; omega)
theorem loadN_le (K : List CaseD) (id : Int) (k : Nat) : loadN (K.take k) id ≤ K.length := Nat.le_trans (List.countP_le_length ..) (by rw [List.length_take]; omega)
theorem casN_yes {K : List CaseD} {id : Int} {k : Nat} (h : k < K.length) (q : ((kAt K k).c == id) = true) : casN (K.take (k + 1)) id = casN (K.take k) id + 1 := by rw [casN_take h, q]; rfl
theorem casN_no {K : List CaseD} {id : Int} {k : Nat} (h : k < K.length) (q : ((kAt K k).c == id) = false) : casN (K.take (k + 1)) id = casN (K.take k) id := by rw [casN_take h, q]; rfl
theorem loadN_yes {K : List CaseD} {id : Int} {k : Nat} (h : k < K.length) (q : ((kAt K k).c == id) = true) (s : (kAt K k).s = false) : loadN (K.take (k + 1)) id = loadN (K.take k) id + 1 := by rw [loadN_take h, if_pos (by unfold unC; rw [q, s]; rfl)]
theorem loadN_no1 {K : List CaseD} {id : Int} {k : Nat} (h : k < K.length) (q : ((kAt K k).c == id) = false) : loadN (K.take (k + 1)) id = loadN (K.take k) id := by rw [loadN_take h, if_neg (by unfold unC; rw [q]; simp)]; rfl
theorem loadN_no2 {K : List CaseD} {id : Int} {k : Nat} (h : k < K.length) (s : (kAt K k).s = true) : loadN (K.take (k + 1)) id = loadN (K.take k) id := by rw [loadN_take h, if_neg (by unfold unC; rw [s]; simp)]; rfl
theorem unseen_take {K : List CaseD} {id : Int} {k : Nat} (h : k < K.length) : unseenL (K.take (k + 1)) id = unseenL (K.take k) id ++ if unC id (kAt K k) = true then [kAt K k] else [] := by
  unfold unseenL; rw [take_k h, List.filter_append]
  congr 1
  cases h2 : unC id (kAt K k) <;> simp [h2]
theorem unseen_yes {K : List CaseD} {id : Int} {k : Nat} (h : k < K.length) (q : unC id (kAt K k) = true) : unseenL (K.take (k + 1)) id = unseenL (K.take k) id ++ [kAt K k] := by rw [unseen_take h, if_pos q]
theorem unseen_no {K : List CaseD} {id : Int} {k : Nat} (h : k < K.length) (q : unC id (kAt K k) = false) : unseenL (K.take (k + 1)) id = unseenL (K.take k) id := by rw [unseen_take h, if_neg (by rw [q]; simp), List.append_nil]
def talD (K : List CaseD) (id : Int) : TalD := ⟨id, (loadN K id : Nat), (casN K id : Nat)⟩
theorem TalC.other {w : World} {y : Nat} {b : TalD} (h : TalC w y b) (p : Addr) (u : Value) (hp : y ≠ p.block) : TalC (w.setCell p u) y b := (Below.heap_setCell w p u y hp).trans h
set_option maxRecDepth 100000 in
set_option maxHeartbeats 4000000 in
theorem count_any {P : Nat → Prop} (v : Value) (id : Int) (D : DeskD) (w : World) (hD : DeskR P w v D) (hl : D.ks.length ≤ 100000) :
    Calls Try.prog 52 #[v, .int .i64 id] w (RetT (talD D.ks id) w) := by
  obtain ⟨A, ca, B, cb, rfl, h1, h2⟩ := hD
  obtain ⟨C, K⟩ := D
  have HKS := Lib.hid h2
  simp only at hl
  clear h1 h2
  go_enter Try.func52, Try.ntmps52
  go_wp2_with fail
  refine gen_world fun wh hwh => ?_
  have HBH := Lib.hid (show Below w.heap.size w wh from by rw [hwh]; exact bl_alloc _ (bl_alloc _ (below_alloc _ _)))
  have HRC := Lib.hid (show TalC wh (w.heap.size + 1) ⟨0, 0, 0⟩ from by rw [hwh]; exact (TalC.new ⟨0, 0, 0⟩ (by simp)).below (below_alloc _ _))
  have HTH := Lib.hid (show TalC wh (w.heap.size + 1 + 1) ⟨id, 0, 0⟩ from by rw [hwh]; exact TalC.new ⟨id, 0, 0⟩ (by simp))
  clear hwh
  generalize hbx : w.heap.size = bx at *
  have HBX := Lib.hid hbx
  clear hbx
  go_loopw [13] (fun i wr => ∃ k : Nat, k ≤ K.length ∧ i = .int .i64 k ∧ TalC wr (bx + 1 + 1) ⟨id, (loadN (K.take k) id : Nat), (casN (K.take k) id : Nat)⟩ ∧ TalC wr (bx + 1) ⟨0, 0, 0⟩ ∧ Below bx w wr) (fun i _ => K.length - (intOf i).toNat)
  case atStart => exact ⟨0, Nat.zero_le _, rfl, HTH.out, HRC.out, HBH.out⟩
  case round =>
    obtain ⟨k, hk, rfl, hT, hR, hbr⟩ := hrel
    have HT := Lib.hid hT
    have HR := Lib.hid hR
    have HBR := Lib.hid hbr
    clear hT hR
    by_cases hlt : k < K.length
    · obtain ⟨kb, ko, rfl, hbl, -, c0, c1, c2, c3, c4⟩ := (HKS.out.below (by rw [HBX.out]; exact hbr)).case hlt
      have hk0 : (0 : Int) ≤ (k : Int) := by omega
      have hkl : (k : Int) < (K.length : Int) := by omega
      have u0 := HT.out.c0
      have u1 := HT.out.c1
      have u2 := HT.out.c2
      have g1 := HT.out.fz 1
      have g2 := HT.out.fz 2
      have lt := HT.out.lt
      have n1 := casN_le K id k
      have n2 := loadN_le K id k
      have HB2 := Lib.hid (show Below bx w (wr.alloc (.cells #[.int .i64 (kAt K k).c, .string (kAt K k).r, .string (kAt K k).o, .int .i64 (kAt K k).t, .bool (kAt K k).s] 37)) from HBR.out.trans ((below_alloc _ _).mono (by omega)))
      have HT2 := Lib.hid (HT.out.below (below_alloc wr (.cells #[.int .i64 (kAt K k).c, .string (kAt K k).r, .string (kAt K k).o, .int .i64 (kAt K k).t, .bool (kAt K k).s] 37)))
      have HR2 := Lib.hid (HR.out.below (below_alloc wr (.cells #[.int .i64 (kAt K k).c, .string (kAt K k).r, .string (kAt K k).o, .int .i64 (kAt K k).t, .bool (kAt K k).s] 37)))
      clear hbr
      cases q : (kAt K k).c == id with
      | false =>
        have HN1 := Lib.hid (casN_no hlt q)
        have HN2 := Lib.hid (loadN_no1 hlt q)
        have q' : ((kAt K k).c != id) = true := by simp [bne, q]
        clear q
        generalize kAt K k = x at *
        generalize casN (K.take k) id = m1 at *
        generalize loadN (K.take k) id = m2 at *
        go_wp2_with fail
        go_roundw
        case rel => exact ⟨k + 1, by omega, by go_num, by rw [HN1.out, HN2.out]; exact HT2.out, HR2.out, HB2.out⟩
        case measure => simp [intOf]; omega
      | true =>
        have HN1 := Lib.hid (casN_yes hlt q)
        have q' : ((kAt K k).c != id) = false := by simp [bne, q]
        cases s : (kAt K k).s with
        | true =>
          have HN2 := Lib.hid (loadN_no2 (id := id) hlt s)
          clear q
          rw [s] at c4 HB2 HT2 HR2
          clear s
          generalize kAt K k = x at *
          generalize casN (K.take k) id = m1 at *
          generalize loadN (K.take k) id = m2 at *
          go_wp2_with fail
          go_roundw
          case rel => exact ⟨k + 1, by omega, by go_num, by rw [HN1.out, HN2.out]; exact (HT.out.set2 _).below (below_alloc _ _), (HR.out.other ⟨bx + 1 + 1, 2, none⟩ _ (by show bx + 1 ≠ bx + 1 + 1; omega)).below (below_alloc _ _), (below_set HBR.out ⟨bx + 1 + 1, 2, none⟩ _ (by show bx ≤ bx + 1 + 1; omega)).trans ((below_alloc _ _).mono (by simp [World.setCell]; omega))⟩
          case measure => simp [intOf]; omega
        | false =>
          have HN2 := Lib.hid (loadN_yes (id := id) hlt q s)
          clear q
          rw [s] at c4 HB2 HT2 HR2
          clear s
          generalize kAt K k = x at *
          generalize casN (K.take k) id = m1 at *
          generalize loadN (K.take k) id = m2 at *
          go_wp2_with fail
          go_roundw
          case rel => exact ⟨k + 1, by omega, by go_num, by rw [HN1.out, HN2.out]; exact ((HT.out.set2 _).set1 _).below (below_alloc _ _), ((HR.out.other ⟨bx + 1 + 1, 2, none⟩ _ (by show bx + 1 ≠ bx + 1 + 1; omega)).other ⟨bx + 1 + 1, 1, none⟩ _ (by show bx + 1 ≠ bx + 1 + 1; omega)).below (below_alloc _ _), (below_set (below_set HBR.out ⟨bx + 1 + 1, 2, none⟩ _ (by show bx ≤ bx + 1 + 1; omega)) ⟨bx + 1 + 1, 1, none⟩ _ (by show bx ≤ bx + 1 + 1; omega)).trans ((below_alloc _ _).mono (by simp [World.setCell]; omega))⟩
          case measure => simp [intOf]; omega
    · obtain rfl : K.length = k := by omega
      have hkl : ¬ (K.length : Int) < (K.length : Int) := by omega
      have HT2 := Lib.hid (show TalC wr (bx + 1 + 1) (talD K id) from by have := HT.out; rw [List.take_length] at this; exact this)
      generalize talD K id = ta at *
      clear HT
      have HE := Lib.hid (HR.out.fill ta)
      have HEB := Lib.hid (below_fill (a := ta) hbr (show bx ≤ bx + 1 by omega))
      have u0 := HT2.out.c0
      have u1 := HT2.out.c1
      have u2 := HT2.out.c2
      have r0 := HR.out.c0
      have r1 := HR.out.c1
      have r2 := HR.out.c2
      have g0 := HR.out.fz 0
      have g1 := HR.out.fz 1
      have g2 := HR.out.fz 2
      go_wp2_with fail
      exact bodyPost_ret (results_tal rfl _ _ (bx + 1) rfl HE.out) rfl ⟨rfl, by rw [HBX.out]; exact HEB.out⟩
set_option maxRecDepth 100000 in
set_option maxHeartbeats 4000000 in
theorem unseen_any {P : Nat → Prop} (v : Value) (id : Int) (D : DeskD) (w : World) (hD : DeskR P w v D) (hl : D.ks.length ≤ 10000) :
    Calls Try.prog 17 #[v, .int .i64 id] w (NewEl EK 37 (unseenL D.ks id) w) := by
  obtain ⟨A, ca, B, cb, rfl, h1, h2⟩ := hD
  obtain ⟨C, K⟩ := D
  have HKS := Lib.hid h2
  simp only at hl
  clear h1 h2
  go_enter Try.func17, Try.ntmps17
  go_wp2_with fail
  refine gen_world fun wh hwh => ?_
  have HBH := Lib.hid (show Below w.heap.size w wh from by rw [hwh]; exact below_alloc _ _)
  have HDC := Lib.hid (show DeskCell wh w.heap.size (.slice A C.length ca) (.slice B K.length cb) from by rw [hwh]; exact DeskCell.new _ _ rfl)
  have hbs : w.heap.size + 1 ≤ wh.heap.size := by rw [hwh]; simp
  clear hwh
  go_loopw [11, 5] (fun i vv wr => ∃ k : Nat, k ≤ K.length ∧ i = .int .i64 k ∧ ElOwn EK 37 wr (w.heap.size + 1) vv (unseenL (K.take k) id) ∧ Below (w.heap.size + 1) wh wr) (fun i _ _ => K.length - (intOf i).toNat)
  case atStart => exact ⟨0, Nat.zero_le _, rfl, ElOwn.nil _ _ _ _, Below.refl _ _⟩
  case round =>
    obtain ⟨k, hk, rfl, hown, hbr⟩ := hrel
    obtain ⟨A5, c5, rfl, -⟩ := hown.toP
    have HOW := Lib.hid hown
    have HBR := Lib.hid hbr
    have HBW := Lib.hid (show Below w.heap.size w wr from HBH.out.trans (hbr.mono (by omega)))
    have hsz := hbr.size
    clear hown hbr
    by_cases hlt : k < K.length
    · obtain ⟨kb, ko, rfl, hbl, -, c0, c1, c2, c3, c4⟩ := (HKS.out.below HBW.out).case hlt
      have hk0 : (0 : Int) ≤ (k : Int) := by omega
      have hkl : (k : Int) < (K.length : Int) := by omega
      cases hq : unC id (kAt K k) with
      | true =>
        have HN := Lib.hid (unseen_yes hlt hq)
        have q1 : ((kAt K k).c == id) = true := by unfold unC at hq; simp only [Bool.and_eq_true] at hq; exact hq.1
        have q2 : (kAt K k).s = false := by unfold unC at hq; simp only [Bool.and_eq_true, Bool.not_eq_true'] at hq; exact hq.2
        have HSF := Lib.hid q2
        rw [q2] at c4
        clear hq q2
        have HUL := Lib.hid (show (unseenL (K.take k) id).length ≤ 10000 from by rw [unseen_len]; have := loadN_le K id k; omega)
        have HOW2 := Lib.hid (show ElOwn EK 37 (wr.alloc (.cells #[.int .i64 (kAt K k).c, .string (kAt K k).r, .string (kAt K k).o, .int .i64 (kAt K k).t, .bool false] 37)) (w.heap.size + 1) (.slice A5 (unseenL (K.take k) id).length c5) (unseenL (K.take k) id) from HOW.out.below (below_alloc wr (.cells #[.int .i64 (kAt K k).c, .string (kAt K k).r, .string (kAt K k).o, .int .i64 (kAt K k).t, .bool false] 37)))
        go_wp2_with (first | (at_builtin; refine app_elL EK Try.underlying28 info_case rfl rfl (.tmp 24) (.tmp 26) rfl (base := w.heap.size + 1) (w := (wr.alloc (.cells #[.int .i64 (kAt K k).c, .string (kAt K k).r, .string (kAt K k).o, .int .i64 (kAt K k).t, .bool false] 37))) (v := .slice A5 (unseenL (K.take k) id).length c5) (S := unseenL (K.take k) id) (kAt K k) (by show _ = #[_, _, _, _, _]; rw [HSF.out]) rfl HOW2.out (wr.heap.size + 1) (by first | rfl | simp) rfl (by have := HUL.out; omega) (by omega) (by first | omega | (simp; omega)) ?_; intro g cap w5 hown5 hg5 _; have HO5 := Lib.hid hown5; have HB5 := Lib.hid ((Below.refl (w.heap.size + 1) (wr.alloc (.cells #[.int .i64 (kAt K k).c, .string (kAt K k).r, .string (kAt K k).o, .int .i64 (kAt K k).t, .bool false] 37))).grown hg5 (by first | omega | (simp; omega)) (fun j hj => (World.ownsRow.lt HOW2.out j hj).1)); clear hown5 hg5) | fail)
        go_roundw
        case rel =>
          refine ⟨k + 1, by omega, by go_num, ?_, HBR.out.trans (((below_alloc wr (.cells #[.int .i64 (kAt K k).c, .string (kAt K k).r, .string (kAt K k).o, .int .i64 (kAt K k).t, .bool false] 37)).mono (by omega)).trans HB5.out)⟩
          rw [HN.out]
          exact HO5.out
        case measure => simp [intOf]; omega
      | false =>
        have HN := Lib.hid (unseen_no hlt hq)
        cases q1 : (kAt K k).c == id with
        | true =>
          have q2 : (kAt K k).s = true := by unfold unC at hq; rw [q1] at hq; simpa using hq
          rw [q2] at c4
          clear hq q2
          go_wp2_with fail
          go_roundw
          case rel => exact ⟨k + 1, by omega, by go_num, by rw [HN.out]; exact HOW.out.below (below_alloc wr (.cells #[.int .i64 (kAt K k).c, .string (kAt K k).r, .string (kAt K k).o, .int .i64 (kAt K k).t, .bool true] 37)), HBR.out.trans ((below_alloc wr (.cells #[.int .i64 (kAt K k).c, .string (kAt K k).r, .string (kAt K k).o, .int .i64 (kAt K k).t, .bool true] 37)).mono (by omega))⟩
          case measure => simp [intOf]; omega
        | false =>
          clear hq
          go_wp2_with fail
          go_roundw
          case rel => exact ⟨k + 1, by omega, by go_num, by rw [HN.out]; exact HOW.out.below (below_alloc wr (.cells #[.int .i64 (kAt K k).c, .string (kAt K k).r, .string (kAt K k).o, .int .i64 (kAt K k).t, .bool (kAt K k).s] 37)), HBR.out.trans ((below_alloc wr (.cells #[.int .i64 (kAt K k).c, .string (kAt K k).r, .string (kAt K k).o, .int .i64 (kAt K k).t, .bool (kAt K k).s] 37)).mono (by omega))⟩
          case measure => simp [intOf]; omega
    · obtain rfl : K.length = k := by omega
      have hkl : ¬ (K.length : Int) < (K.length : Int) := by omega
      have HE := Lib.hid (show ElOwn EK 37 wr w.heap.size (.slice A5 (unseenL K id).length c5) (unseenL K id) from by have := HOW.out.mono (show w.heap.size ≤ w.heap.size + 1 by omega); rw [List.take_length] at this; exact this)
      go_wp2_with fail
      go_ret
      exact ⟨_, rfl, HE.out, HBW.out⟩
set_option maxRecDepth 100000 in
set_option maxHeartbeats 4000000 in
theorem refUnseen_any {P : Nat → Prop} (v : Value) (id : Int) (D : DeskD) (w : World) (hD : DeskR P w v D) (hl : D.ks.length ≤ 10000) :
    Calls Try.prog 46 #[v, .int .i64 id] w (NewEl EK 37 (unseenL D.ks id) w) := by
  obtain ⟨A, ca, B, cb, rfl, h1, h2⟩ := hD
  obtain ⟨C, K⟩ := D
  have HKS := Lib.hid h2
  simp only at hl
  clear h1 h2
  go_enter Try.func46, Try.ntmps46
  go_wp2_with fail
  refine gen_world fun wh hwh => ?_
  have HBH := Lib.hid (show Below w.heap.size w wh from by rw [hwh]; exact below_alloc _ _)
  have HDC := Lib.hid (show DeskCell wh w.heap.size (.slice A C.length ca) (.slice B K.length cb) from by rw [hwh]; exact DeskCell.new _ _ rfl)
  have hbs : w.heap.size + 1 ≤ wh.heap.size := by rw [hwh]; simp
  clear hwh
  go_loopw [6, 5] (fun i vv wr => ∃ k : Nat, k ≤ K.length ∧ i = .int .i64 k ∧ ElOwn EK 37 wr (w.heap.size + 1) vv (unseenL (K.take k) id) ∧ Below (w.heap.size + 1) wh wr) (fun i _ _ => K.length - (intOf i).toNat)
  case atStart => exact ⟨0, Nat.zero_le _, rfl, ElOwn.nil _ _ _ _, Below.refl _ _⟩
  case round =>
    obtain ⟨k, hk, rfl, hown, hbr⟩ := hrel
    obtain ⟨A5, c5, rfl, -⟩ := hown.toP
    have HOW := Lib.hid hown
    have HBR := Lib.hid hbr
    have HBW := Lib.hid (show Below w.heap.size w wr from HBH.out.trans (hbr.mono (by omega)))
    have hsz := hbr.size
    have d1 := (DeskCell.keep HDC.out (hbr.block _ (by omega))).c1
    have ld : w.heap.size < wr.heap.size := by have := hbr.size; omega
    clear hown hbr
    by_cases hlt : k < K.length
    · obtain ⟨kb, ko, rfl, hbl, -, c0, c1, c2, c3, c4⟩ := (HKS.out.below HBW.out).case hlt
      have hk0 : (0 : Int) ≤ (k : Int) := by omega
      have hkl : (k : Int) < (K.length : Int) := by omega
      cases hq : unC id (kAt K k) with
      | true =>
        have HN := Lib.hid (unseen_yes hlt hq)
        have q1 : ((kAt K k).c == id) = true := by unfold unC at hq; simp only [Bool.and_eq_true] at hq; exact hq.1
        have q2 : (kAt K k).s = false := by unfold unC at hq; simp only [Bool.and_eq_true, Bool.not_eq_true'] at hq; exact hq.2
        have HSF := Lib.hid q2
        rw [q2] at c4
        clear hq q2
        have HUL := Lib.hid (show (unseenL (K.take k) id).length ≤ 10000 from by rw [unseen_len]; have := loadN_le K id k; omega)
        have HOW2 := Lib.hid (show ElOwn EK 37 wr (w.heap.size + 1) (.slice A5 (unseenL (K.take k) id).length c5) (unseenL (K.take k) id) from HOW.out.below (Below.refl wr.heap.size wr))
        go_wp2_with (first | (at_builtin; refine app_elL EK Try.underlying28 info_case rfl rfl (.tmp 31) (.tmp 37) rfl (base := w.heap.size + 1) (w := wr) (v := .slice A5 (unseenL (K.take k) id).length c5) (S := unseenL (K.take k) id) (kAt K k) (by show _ = #[_, _, _, _, _]; rw [HSF.out]) rfl HOW2.out (wr.heap.size) (by first | rfl | simp) rfl (by have := HUL.out; omega) (by omega) (by first | omega | (simp; omega)) ?_; intro g cap w5 hown5 hg5 _; have HO5 := Lib.hid hown5; have HB5 := Lib.hid ((Below.refl (w.heap.size + 1) wr).grown hg5 (by first | omega | (simp; omega)) (fun j hj => (World.ownsRow.lt HOW2.out j hj).1)); clear hown5 hg5) | fail)
        go_roundw
        case rel =>
          refine ⟨k + 1, by omega, by go_num, ?_, HBR.out.trans (((Below.refl wr.heap.size wr).mono (by omega)).trans HB5.out)⟩
          rw [HN.out]
          exact HO5.out
        case measure => simp [intOf]; omega
      | false =>
        have HN := Lib.hid (unseen_no hlt hq)
        cases q1 : (kAt K k).c == id with
        | true =>
          have q2 : (kAt K k).s = true := by unfold unC at hq; rw [q1] at hq; simpa using hq
          rw [q2] at c4
          clear hq q2
          go_wp2_with fail
          go_roundw
          case rel => exact ⟨k + 1, by omega, by go_num, by rw [HN.out]; exact HOW.out.below (Below.refl wr.heap.size wr), HBR.out.trans ((Below.refl wr.heap.size wr).mono (by omega))⟩
          case measure => simp [intOf]; omega
        | false =>
          clear hq
          go_wp2_with fail
          go_roundw
          case rel => exact ⟨k + 1, by omega, by go_num, by rw [HN.out]; exact HOW.out.below (Below.refl wr.heap.size wr), HBR.out.trans ((Below.refl wr.heap.size wr).mono (by omega))⟩
          case measure => simp [intOf]; omega
    · obtain rfl : K.length = k := by omega
      have hkl : ¬ (K.length : Int) < (K.length : Int) := by omega
      have HE := Lib.hid (show ElOwn EK 37 wr w.heap.size (.slice A5 (unseenL K id).length c5) (unseenL K id) from by have := HOW.out.mono (show w.heap.size ≤ w.heap.size + 1 by omega); rw [List.take_length] at this; exact this)
      go_wp2_with fail
      go_ret
      exact ⟨_, rfl, HE.out, HBW.out⟩
set_option maxRecDepth 100000 in
set_option maxHeartbeats 4000000 in
theorem total_any {P : Nat → Prop} (v : Value) (id : Int) (D : DeskD) (w : World) (hD : DeskR P w v D) (hl : D.ks.length ≤ 100000) :
    Calls Try.prog 69 #[v, .int .i64 id] w (RetB (.int .i64 (casN D.ks id : Nat)) w) := by
  obtain ⟨A, ca, B, cb, rfl, h1, h2⟩ := hD
  obtain ⟨C, K⟩ := D
  have HKS := Lib.hid h2
  simp only at hl
  clear h1 h2
  go_enter Try.func69, Try.ntmps69
  go_wp2_with fail
  refine gen_world fun wh hwh => ?_
  have HBH := Lib.hid (show Below w.heap.size w wh from by rw [hwh]; exact below_alloc _ _)
  have HDC := Lib.hid (show DeskCell wh w.heap.size (.slice A C.length ca) (.slice B K.length cb) from by rw [hwh]; exact DeskCell.new _ _ rfl)
  clear hwh
  go_loopw [5, 6] (fun n i wr => ∃ k : Nat, k ≤ K.length ∧ n = .int .i64 (casN (K.take k) id : Nat) ∧ i = .int .i64 k ∧ Below wh.heap.size wh wr) (fun _ i _ => K.length - (intOf i).toNat)
  case atStart => exact ⟨0, Nat.zero_le _, rfl, rfl, Below.refl _ _⟩
  case round =>
    obtain ⟨k, hk, rfl, rfl, hbr⟩ := hrel
    have HBR := Lib.hid hbr
    have d1 := (HDC.out.below hbr).c1
    have ld := (HDC.out.below hbr).lt
    by_cases hlt : k < K.length
    · obtain ⟨kb, ko, rfl, hbl, -, c0, -, -, -, -⟩ := (HKS.out.below (below_trans HBH.out hbr)).case hlt
      have hk0 : (0 : Int) ≤ (k : Int) := by omega
      have hkl : (k : Int) < (K.length : Int) := by omega
      have n1 := casN_le K id k
      clear hbr
      cases q : (kAt K k).c == id with
      | false =>
        have HN1 := Lib.hid (casN_no hlt q)
        generalize kAt K k = x at *
        generalize casN (K.take k) id = m1 at *
        go_wp2_with fail
        go_roundw
        case rel => exact ⟨k + 1, by omega, by rw [HN1.out], by go_num, HBR.out⟩
        case measure => simp [intOf]; omega
      | true =>
        have HN1 := Lib.hid (casN_yes hlt q)
        generalize kAt K k = x at *
        generalize casN (K.take k) id = m1 at *
        go_wp2_with fail
        go_roundw
        case rel => exact ⟨k + 1, by omega, by rw [HN1.out]; go_num, by go_num, HBR.out⟩
        case measure => simp [intOf]; omega
    · obtain rfl : K.length = k := by omega
      have hkl : ¬ (K.length : Int) < (K.length : Int) := by omega
      have HV := Lib.hid (show casN (K.take K.length) id = casN K id from by rw [List.take_length])
      generalize casN (K.take K.length) id = m1 at *
      go_wp2_with fail
      go_ret
      exact RetB.int (by rw [HV.out]) (below_trans HBH.out HBR.out)
def canB (d : CouD) (r o : ByteArray) : Bool := !hasS d.away r && eqS d.o o
theorem hasS_at {S : List ByteArray} {r : ByteArray} {j : Nat} (hj : j < S.length) (h : eqS (sAt S j) r = true) : hasS S r = true := any_at (T := eqS r) hj (by rw [eqS_iff] at h ⊢; exact h.symm)
theorem hasS_none {S : List ByteArray} {r : ByteArray} (h : ∀ j, j < S.length → eqS (sAt S j) r = false) : hasS S r = false := any_none (T := eqS r) fun j hj => by
  have := h j hj
  rw [eqS_no] at this ⊢
  exact fun e => this e.symm
set_option maxRecDepth 100000 in
set_option maxHeartbeats 4000000 in
theorem can_any {P : Nat → Prop} (x : CouV) (d : CouD) (r o : ByteArray) (w : World) (hx : CouR P w x d) (hl : d.away.length ≤ 100000) :
    Calls Try.prog 68 #[couV x, .string r, .string o] w (RetB (.bool (canB d r o)) w) := by
  obtain ⟨xi, xo, xA, xn, xc⟩ := x
  have e2 : xo = d.o := hx.o
  have e3 : xn = d.away.length := hx.n
  have HAW := Lib.hid (show ElP ES P w xA xc d.away from hx.away)
  subst e2 e3
  clear hx
  have HVV := Lib.hid (fun h => (show canB d r o = eqS d.o o from by unfold canB; rw [show hasS d.away r = false from h]; rfl))
  have HVF := Lib.hid (fun h => (show false = canB d r o from by unfold canB; rw [show hasS d.away r = true from h]; rfl))
  go_enter Try.func68, Try.ntmps68
  go_wp2_with fail
  refine gen_world fun wh hwh => ?_
  have HBH := Lib.hid (show Below w.heap.size w wh from by rw [hwh]; exact below_alloc _ _)
  have HVC := Lib.hid (show wh.heap[w.heap.size]? = some (.cells #[.int .i64 xi, .string d.o, .slice xA d.away.length xc] 45 (0, 0)) from by rw [hwh]; exact heap_alloc_new _ _)
  clear hwh
  have HL1 := Lib.hid (blk_ltE HVC.out)
  have V1 := Lib.hid (show wh.cell? ⟨w.heap.size, 1, none⟩ = some (.string d.o) from by rw [cell_of_row _ _ 1 _ _ (0, 0) HVC.out]; rfl)
  have V2 := Lib.hid (show wh.cell? ⟨w.heap.size, 2, none⟩ = some (.slice xA d.away.length xc) from by rw [cell_of_row _ _ 2 _ _ (0, 0) HVC.out]; rfl)
  go_loopw [7] (fun i wr => ∃ k : Nat, k ≤ d.away.length ∧ i = .int .i64 k ∧ (∀ j, j < k → eqS (sAt d.away j) r = false) ∧ Below wh.heap.size wh wr) (fun i _ => d.away.length - (intOf i).toNat)
  case atStart => exact ⟨0, Nat.zero_le _, rfl, fun j hj => absurd hj (by omega), Below.refl _ _⟩
  case round =>
    obtain ⟨k, hk, rfl, hp, hbr⟩ := hrel
    have HP := Lib.hid hp
    have HBR := Lib.hid hbr
    have v1 := (hbr.cell HL1.out).trans V1.out
    have v2 := (hbr.cell HL1.out).trans V2.out
    clear hp
    by_cases hlt : k < d.away.length
    · obtain ⟨b, off, rfl, hbl, -, c1⟩ := (HAW.out.below (below_trans HBH.out hbr)).str hlt
      have hk0 : (0 : Int) ≤ (k : Int) := by omega
      have hkl : (k : Int) < (d.away.length : Int) := by omega
      clear hbr
      cases q : eqS (sAt d.away k) r with
      | true =>
        have HV := Lib.hid (HVF.out (hasS_at hlt q))
        have he : ((sAt d.away k).toList == r.toList) = true := q
        clear q
        go_wp2_with fail
        go_ret
        exact RetB.bool HV.out (below_trans HBH.out HBR.out)
      | false =>
        have HX := Lib.hid q
        have he : ((sAt d.away k).toList == r.toList) = false := q
        clear q
        go_wp2_with fail
        go_roundw
        case rel =>
          refine ⟨k + 1, by omega, by go_num, fun j hj => ?_, HBR.out⟩
          by_cases hjk : j = k
          · subst hjk; exact HX.out
          · exact HP.out j (by omega)
        case measure => simp [intOf]; omega
    · have HV := Lib.hid (HVV.out (hasS_none (fun j hj => HP.out j (by omega))))
      have HE := Lib.hid (show (d.o.toList == o.toList) = eqS d.o o from rfl)
      have hkl : ¬ (k : Int) < (d.away.length : Int) := by omega
      generalize canB d r o = cb at *
      go_wp2_with fail
      go_ret
      exact RetB.bool (by rw [HV.out]; exact HE.out) (below_trans HBH.out HBR.out)
end Go.Proofs.Ytjckpammcgeloaa
namespace Go.Proofs.Ytjckpammcgeloaa
open Go.RowKit Go.Shelf

attribute [local go_sem] Oper.semAt_some

/-- What has come when k rounds of a walk from the end are over: the places. -/
def dnF (n : Nat) : (k : Nat) → k ≤ n → List (Fin n)
  | 0, _ => []
  | k + 1, h => dnF n k (by omega) ++ [⟨n - 1 - k, by omega⟩]
theorem dnF_len (n : Nat) : ∀ (k : Nat) (h : k ≤ n), (dnF n k h).length = k
  | 0, _ => rfl
  | k + 1, h => by simp [dnF, dnF_len n k]
theorem mem_dnF (n : Nat) : ∀ (k : Nat) (h : k ≤ n) (i : Fin n), i ∈ dnF n k h ↔ n - k ≤ i.1
  | 0, h, i => by simp [dnF]
  | k + 1, h, i => by
    rw [dnF, List.mem_append, mem_dnF n k (by omega) i, List.mem_singleton, Fin.ext_iff]
    show _ ∨ i.1 = n - 1 - k ↔ _
    have := i.2
    omega
/-- What a round keeps: what lay below n₀, and the slice's box. -/
structure KpB (n₀ Bs : Nat) (W W' : World) : Prop where
  low : Below n₀ W W'
  box : W'.heap[Bs]? = W.heap[Bs]?
theorem KpB.refl (n₀ Bs : Nat) (W : World) : KpB n₀ Bs W W := ⟨Below.refl _ _, rfl⟩
theorem KpB.trans {n₀ Bs : Nat} {A B C : World} (h : KpB n₀ Bs A B) (g : KpB n₀ Bs B C) : KpB n₀ Bs A C := ⟨h.low.trans g.low, g.box.trans h.box⟩
theorem KpB.turn {n₀ Bs : Nat} {w : World} (hn : n₀ ≤ w.heap.size) (hB : Bs < w.heap.size) (W : World) (l : Nat) (o o' : Obj) (hl : w.heap.size ≤ l) (ho : W.heap[l]? = some o) (h1 : o.isCells = false) (h2 : o.isWalk = false) : KpB n₀ Bs W (W.putObj l o') :=
  ⟨belowK_b hn W l o o' hl ho h1 h2, (grownBy_putObj' W l o').block Bs (by have := (Array.getElem?_eq_some_iff.1 ho).1; omega) (fun e => by injection e with e; omega)⟩
theorem KpB.cell {n₀ Bs : Nat} {W W' : World} (h : KpB n₀ Bs W W') : W'.cell? ⟨Bs, 0, none⟩ = W.cell? ⟨Bs, 0, none⟩ := World.cell?_of_block (w := W) h.box

set_option maxRecDepth 100000 in
set_option maxHeartbeats 2000000 in
theorem back1_in (F : Fence) (n : Nat) (h7 : F.fn 65) (hro : F.round = none) (hn : 1 ≤ n) (l Bs n₀ : Nat) (A : Option Addr) (L : List CaseD) (cap : Nat) (hreach : L.length ≤ 1099511627776) (J Jx : List (Fin L.length) → World → Prop)
    (hY : ∀ pre x W, J pre W → pre.length < L.length → YieldAt F (n - 1) Try.prog l #[.int .i64 (x.1 : Int), caseV (kAt L x.1)] W fun e W' =>
      (e = .returned (.bool true) ∧ J (pre ++ [x]) W' ∧ KpB n₀ Bs W W') ∨ (e = .returned (.bool false) ∧ Jx (pre ++ [x]) W'))
    (W : World) (hBs : W.cell? ⟨Bs, 0, none⟩ = some (.slice A L.length cap)) (hc : ElP EK (fun b => b < n₀) W A cap L) (h0 : J [] W) :
    CallsIn F n Try.prog 65 #[.func (.yield l) #[] #[], .pointer (some ⟨Bs, 0, none⟩)] W fun e W' => (∃ v, e = .returned v) ∧
      ((∃ ys, ys = dnF L.length L.length (Nat.le_refl _) ∧ J ys W') ∨ (∃ pre, (∃ k h, pre = dnF L.length k h) ∧ Jx pre W')) := by
  refine callsIn_of_wp Try.func65 rfl h7 ?_ hro
  simp only [Try.ntmps65, List.size_toArray, List.length_cons, List.length_nil, Nat.reduceAdd, Nat.reduceSub, Array.replicate_succ, Array.replicate_zero, List.push_toArray, List.append_toArray, List.nil_append, List.cons_append]
  gi_wp2
  gi_loopw [3] (fun i wr => ∃ (k : Nat) (hk : k ≤ L.length), i = .int .i64 ((L.length : Int) - 1 - (k : Int)) ∧ J (dnF L.length k hk) wr ∧ KpB n₀ Bs W wr)
    (fun i _ => (intOf i + 1).toNat)
  case atStart => exact ⟨0, Nat.zero_le _, by simp, h0, KpB.refl _ _ _⟩
  case round =>
    obtain ⟨k, hk, rfl, hJs, hnx⟩ := hrel
    have hB' : wr.cell? ⟨Bs, 0, none⟩ = some (.slice A L.length cap) := hnx.cell.trans hBs
    by_cases hlt : k < L.length
    · obtain ⟨b, off, rfl, hbl, hb, hc0, hc1, hc2, hc3, hc4⟩ := (hc.keep (Kpt.belowB hnx.low (fun _ h => h))).case (k := L.length - 1 - k) (by omega)
      obtain ⟨m, hm⟩ : ∃ m, m = L.length - 1 - k := ⟨_, rfl⟩
      have hmi : (L.length : Int) - 1 - (k : Int) = (m : Int) := by omega
      have hml : m < L.length := by omega
      obtain ⟨fn, tmps, assign, body, hy, hR⟩ := hY _ ⟨m, hml⟩ wr hJs (by rw [dnF_len]; exact hlt)
      dsimp only at hy
      rw [hmi]
      rw [← hm] at hc0 hc1 hc2 hc3 hc4
      have HM := Lib.hid hm
      have HJ := Lib.hid hmi
      clear hm hmi
      gi_wp2
      refine hR.mono ?_
      rintro e W3 (⟨rfl, hJ3, hk3⟩ | ⟨rfl, hJx3⟩)
      · gi_wp2
        go_roundw
        case rel => exact ⟨k + 1, by omega, by have := HJ.out; congr 1; omega, by have hJ3' := hJ3; simp only [HM.out] at hJ3'; exact hJ3', hnx.trans hk3⟩
        case measure => (simp [intOf]; try omega)
      · gi_wp2
        refine bodyPost_ret (results_none rfl _ _ _) rfl ?_
        exact ⟨⟨_, rfl⟩, .inr ⟨dnF L.length (k + 1) (by omega), ⟨k + 1, by omega, rfl⟩, by have hJ3' := hJx3; simp only [HM.out] at hJ3'; exact hJ3'⟩⟩
    · obtain rfl : k = L.length := by omega
      have hmi : (L.length : Int) - 1 - (L.length : Int) = -1 := by omega
      rw [hmi]
      gi_wp2
      go_end0
      exact ⟨⟨_, rfl⟩, .inl ⟨_, rfl, hJs⟩⟩

theorem back_in (F : Fence) (n : Nat) (h6 : F.fn 53) (hro : F.round = none) (a : Option Addr) (len cap : Nat) (w : World) :
    CallsIn F n Try.prog 53 #[.slice a len cap] w fun e w' => e = .returned (.func (.func 65) #[] #[.pointer (some ⟨w.heap.size, 0, none⟩)]) ∧ w' = w.alloc (.cells #[.slice a len cap] 28) := by
  refine callsIn_of_wp Try.func53 rfl h6 ?_ hro
  simp only [Try.ntmps53, List.size_toArray, List.length_cons, List.length_nil, Nat.reduceAdd, Nat.reduceSub, Array.replicate_succ, Array.replicate_zero, List.push_toArray, List.append_toArray, List.nil_append, List.cons_append]
  gi_wp2
  go_ret
  exact ⟨rfl, rfl⟩
theorem back_stops (F : Fence) (n : Nat) (h8 : F.fn 65) (hro : F.round = none) (hn : 1 ≤ n) (Bs n₀ : Nat) (A : Option Addr) (L : List CaseD) (cap : Nat) (hreach : L.length ≤ 1099511627776) (w : World) (hBs : Bs < w.heap.size) (hn₀ : n₀ ≤ w.heap.size)
    (hc : w.cell? ⟨Bs, 0, none⟩ = some (.slice A L.length cap)) (hI : ElP EK (fun b => b < n₀) w A cap L) :
    SeqStopsK F n Try.prog 65 #[.pointer (some ⟨Bs, 0, none⟩)] (fun x : Fin L.length => #[Value.int .i64 (x.1 : Int), caseV (kAt L x.1)]) (KpB n₀ Bs) (fun ys => ys = dnF L.length L.length (Nat.le_refl _))
      (fun pre => ∃ k h, pre = dnF L.length k h) L.length w := fun l J Jx W hW _ _ hY h0 => by
  have hc' := (hW.cell (p := ⟨Bs, 0, none⟩) hBs).trans hc
  exact back1_in F n h8 hro hn l Bs n₀ A L cap hreach J Jx hY W hc' (hI.keep (Kpt.belowB (hW.mono hn₀) (fun _ h => h))) h0

end Go.Proofs.Ytjckpammcgeloaa
