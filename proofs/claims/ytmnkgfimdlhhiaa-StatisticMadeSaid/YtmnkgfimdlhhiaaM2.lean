/-
  Rows of elements of any width, in memory: those that came in, and those of the call's own.
  Published numbers: lists of contents in memory; how many are of a department.
  slices.IndexFunc and slices.ContainsFunc over numbers.
  The noise of layer 38: contracts of the program's functions.
  The noise of layer 38: contracts of the functions that are built of the first ones.
  Published numbers: which lists are departments of a table; the count that is blurred; numbers to draw by.
  The plain laws of noise: the weights as natural numbers, checked over all valid noise.
  The noise of layer 38: drawing, and the odds.
  The noise of layer 38: drawing.
  Published numbers: the weights of a table's lines.
  Conditions: those that each theorem names.
-/
import Derived.Test.YtmnkgfimdlhhiaaM1
import Derived.Conc.MuLone
import Derived.Deep.RegionHeld3
set_option linter.unusedVariables false
set_option linter.unusedSimpArgs false
namespace Go.Proofs.Ytmnkgfimdlhhiaa
open Go.RowKit

/-- What the elements of one type are in memory: so many cells each. -/
structure El (α : Type) where
  n : Nat
  f : α → List Value
  len : ∀ x, (f x).length = n
  one : ∀ x, ∀ u ∈ f x, u.oneCell' = true
  pos : 0 < n
def El.flat {α : Type} (E : El α) : List α → List Value
  | [] => []
  | x :: L => E.f x ++ El.flat E L
theorem El.flat_len {α : Type} (E : El α) : ∀ L : List α, (E.flat L).length = L.length * E.n
  | [] => by simp [El.flat]
  | x :: L => by simp only [El.flat, List.length_append, E.len, El.flat_len E L, List.length_cons, Nat.succ_mul]; omega
theorem El.flat_append {α : Type} (E : El α) : ∀ L M : List α, E.flat (L ++ M) = E.flat L ++ E.flat M
  | [], M => rfl
  | x :: L, M => by simp only [List.cons_append, El.flat, El.flat_append E L M, List.append_assoc]
theorem El.flat_one {α : Type} (E : El α) : ∀ L : List α, ∀ u ∈ E.flat L, u.oneCell' = true
  | [], u, h => by cases h
  | x :: L, u, h => by
    simp only [El.flat, List.mem_append] at h
    rcases h with h | h
    · exact E.one x u h
    · exact El.flat_one E L u h
theorem El.flat_at {α : Type} (E : El α) : ∀ (L : List α) (k : Nat) (x : α), L[k]? = some x → ∀ j, j < E.n → (E.flat L)[k * E.n + j]? = (E.f x)[j]?
  | [], k, x, h, j, _ => by simp at h
  | y :: L, 0, x, h, j, hj => by
    simp only [List.getElem?_cons_zero, Option.some.injEq] at h
    subst h
    rw [Nat.zero_mul, Nat.zero_add, El.flat, List.getElem?_append_left (by rw [E.len]; exact hj)]
  | y :: L, k + 1, x, h, j, hj => by
    rw [List.getElem?_cons_succ] at h
    rw [El.flat, List.getElem?_append_right (by rw [E.len, Nat.succ_mul]; omega), E.len, Nat.succ_mul]
    rw [show k * E.n + E.n + j - E.n = k * E.n + j by omega]
    exact El.flat_at E L k x h j hj
/-- The address A leads to the elements L. -/
def ElAt {α : Type} (E : El α) (w : World) (A : Option Addr) (L : List α) : Prop :=
  ∀ k x, L[k]? = some x → ∃ b off, A = some ⟨b, off, none⟩ ∧ b < w.heap.size ∧ ∀ j, j < E.n → w.cell? ⟨b, off + k * E.n + j, none⟩ = (E.f x)[j]?
theorem ElAt.nil {α : Type} (E : El α) (w : World) (A : Option Addr) : ElAt E w A [] := fun k x h => by simp at h
theorem ElAt.below {α : Type} {E : El α} {w w' : World} {A : Option Addr} {L : List α} (h : ElAt E w A L) (hb : Below w.heap.size w w') : ElAt E w' A L := fun k x hk => by
  obtain ⟨b, off, hA, hlt, hc⟩ := h k x hk
  exact ⟨b, off, hA, Nat.lt_of_lt_of_le hlt hb.size, fun j hj => (hb.cell hlt).trans (hc j hj)⟩
theorem ElAt.alloc {α : Type} {E : El α} {w : World} {A : Option Addr} {L : List α} (h : ElAt E w A L) (o : Obj) : ElAt E (w.alloc o) A L := h.below (below_alloc w o)
theorem ElAt.drewN {α : Type} {E : El α} {w : World} {A : Option Addr} {L : List α} (h : ElAt E w A L) (n : Nat) : ElAt E (w.drewN n) A L := h
theorem ElAt.grown {α : Type} {E : El α} {w w' : World} {A : Option Addr} {L : List α} {D : Nat} (h : ElAt E w A L) (hg : w.grownBy w' (some D)) (hD : ∀ b off, A = some ⟨b, off, none⟩ → b ≠ D) : ElAt E w' A L := fun k x hk => by
  obtain ⟨b, off, hA, hlt, hc⟩ := h k x hk
  exact ⟨b, off, hA, Nat.lt_of_lt_of_le hlt hg.size, fun j hj => (grown_cell hg b _ hlt (hD b off hA)).trans (hc j hj)⟩
/-- The call's own slice of elements. -/
def ElOwn {α : Type} (E : El α) (ty : TypeId) (w : World) (base : Nat) (v : Value) (L : List α) : Prop := w.ownsRow base ty E.n v L.length (E.flat L)
theorem blk_ltE {w : World} {x : Nat} {o : Obj} (h : w.heap[x]? = some o) : x < w.heap.size := by
  rcases Nat.lt_or_ge x w.heap.size with hlt | hge
  · exact hlt
  · rw [Array.getElem?_eq_none hge] at h; cases h
theorem ElOwn.at_ {α : Type} {E : El α} {ty : TypeId} {w : World} {base : Nat} {v : Value} {L : List α} (h : ElOwn E ty w base v L) :
    ∃ A c, v = .slice A L.length c ∧ ElAt E w A L ∧ (A = none → L.length = 0 ∧ c = 0) ∧ (∀ a, A = some a → a.off = 0 ∧ a.spot = none ∧ base ≤ a.block ∧ a.block < w.heap.size) ∧ L.length ≤ c ∧ c ≤ maxLen := by
  rcases h.2 with ⟨rfl, h0⟩ | ⟨g, cap, cur, rfl, hg, hh, hnc, hcm, hcs, htk⟩
  · have : L = [] := List.eq_nil_of_length_eq_zero h0
    subst this
    exact ⟨none, 0, rfl, ElAt.nil _ _ _, fun _ => ⟨rfl, rfl⟩, fun a e => (by cases e), Nat.le_refl _, Nat.zero_le _⟩
  · have hlt : g < w.heap.size := blk_ltE hh
    refine ⟨some ⟨g, 0, none⟩, cap, rfl, fun k x hk => ?_, fun e => (by cases e), fun a e => (by injection e with e; subst e; exact ⟨rfl, rfl, hg, hlt⟩), hnc, hcm⟩
    have hkl : k < L.length := by
      rcases Nat.lt_or_ge k L.length with h1 | h1
      · exact h1
      · rw [List.getElem?_eq_none h1] at hk; cases hk
    refine ⟨g, 0, rfl, hlt, fun j hj => ?_⟩
    have hm : (k + 1) * E.n ≤ L.length * E.n := Nat.mul_le_mul_right _ hkl
    rw [Nat.succ_mul] at hm
    rw [Nat.zero_add, h.cellAt (j := k * E.n + j) (by omega)]
    exact E.flat_at L k x hk j hj
theorem ElOwn.below {α : Type} {E : El α} {ty : TypeId} {w w' : World} {base : Nat} {v : Value} {L : List α} (h : ElOwn E ty w base v L) (hb : Below w.heap.size w w') : ElOwn E ty w' base v L := own_below h hb
theorem ElOwn.alloc {α : Type} {E : El α} {ty : TypeId} {w : World} {base : Nat} {v : Value} {L : List α} (h : ElOwn E ty w base v L) (o : Obj) : ElOwn E ty (w.alloc o) base v L := own_below h (below_alloc w o)
theorem ElOwn.mono {α : Type} {E : El α} {ty : TypeId} {w : World} {base base' : Nat} {v : Value} {L : List α} (h : ElOwn E ty w base v L) (hb : base' ≤ base) : ElOwn E ty w base' v L := ownsRow_mono h hb
theorem ElOwn.nil {α : Type} (E : El α) (ty : TypeId) (w : World) (base : Nat) : ElOwn E ty w base (.slice none 0 0) [] := ⟨by simp [El.flat], .inl ⟨rfl, rfl⟩⟩
theorem ElOwn.grown {α : Type} {E : El α} {ty : TypeId} {w w' : World} {base D : Nat} {v : Value} {L : List α} (h : ElOwn E ty w base v L) (hg : w.grownBy w' (some D)) (hD : D < base) : ElOwn E ty w' base v L := by
  obtain ⟨h1, h2⟩ := h
  refine ⟨h1, ?_⟩
  rcases h2 with h2 | ⟨g, cap, cur, hv, hgb, hh, r⟩
  · exact .inl h2
  · exact .inr ⟨g, cap, cur, hv, hgb, (hg.block g (blk_ltE hh) (fun e => by injection e with e; omega)).trans hh, r⟩
theorem ElOwn.kept {α : Type} {E : El α} {ty : TypeId} {w w' : World} {base : Nat} {v : Value} {L : List α} (h : ElOwn E ty w base v L) (hk : ∀ k, v.ownBlock = some k → w'.heap[k]? = w.heap[k]?) : ElOwn E ty w' base v L := by
  obtain ⟨h1, h2⟩ := h
  refine ⟨h1, ?_⟩
  rcases h2 with h2 | ⟨g, cap, cur, hv, hgb, hh, r⟩
  · exact .inl h2
  · exact .inr ⟨g, cap, cur, hv, hgb, (hk g (by rw [hv]; rfl)).trans hh, r⟩
theorem ElOwn.set_ {α : Type} {E : El α} {ty : TypeId} {w : World} {base : Nat} {v : Value} {L : List α} (h : ElOwn E ty w base v L) (p : Addr) (u : Value) (hp : p.block < base) : ElOwn E ty (w.setCell p u) base v L :=
  h.kept fun k hk => Below.heap_setCell w p u k (by have := (World.ownsRow.lt h k hk).1; omega)
theorem ElAt.lit {α : Type} (E : El α) (w : World) (x : α) (ty : TypeId) : ElAt E (w.alloc (.cells (E.f x).toArray ty)) (some ⟨w.heap.size, 0, none⟩) [x] := fun k y hk => by
  rcases k with _ | k
  · simp only [List.getElem?_cons_zero, Option.some.injEq] at hk
    subst hk
    refine ⟨_, _, rfl, by simp, fun j hj => ?_⟩
    have h := heap_alloc_new w (.cells (E.f x).toArray ty)
    rw [Nat.zero_add, Nat.zero_mul, Nat.zero_add, cell_of_row _ _ j _ _ (0, 0) h]
    simp
  · simp at hk
theorem ElAt.news {α : Type} {E : El α} {w : World} {b off : Nat} {L : List α} (h : ElAt E w (some ⟨b, off, none⟩) L) : ∀ j u, (E.flat L)[j]? = some u → w.cell? ((⟨b, off, none⟩ : Addr).add j) = some u := fun j u hu => by
  have hj : j < L.length * E.n := by
    rcases Nat.lt_or_ge j (E.flat L).length with h1 | h1
    · rw [E.flat_len] at h1; exact h1
    · rw [List.getElem?_eq_none h1] at hu; cases hu
  have hk : j / E.n < L.length := (Nat.div_lt_iff_lt_mul E.pos).2 hj
  have hr : j % E.n < E.n := Nat.mod_lt _ E.pos
  have hjj : j / E.n * E.n + j % E.n = j := by rw [Nat.mul_comm]; exact Nat.div_add_mod j E.n
  obtain ⟨b', off', e, _, hc⟩ := h (j / E.n) L[j / E.n] (List.getElem?_eq_getElem hk)
  injection e with e
  injection e with e1 e2
  subst e1; subst e2
  have e : (⟨b, off, none⟩ : Addr).add j = ⟨b, off + j, none⟩ := by
    unfold Addr.add; split
    · rename_i h; subst h; rfl
    · rfl
  have h2 := E.flat_at L (j / E.n) L[j / E.n] (List.getElem?_eq_getElem hk) (j % E.n) hr
  rw [hjj] at h2
  have h3 := hc (j % E.n) hr
  rw [show off + j / E.n * E.n + j % E.n = off + j by omega] at h3
  rw [e, h3, ← h2, hu]
theorem ElAt.newsA {α : Type} {E : El α} {w : World} {a : Addr} {L : List α} (h : ElAt E w (some a) L) (hA : a.spot = none ∨ L.length = 0) : ∀ j u, (E.flat L)[j]? = some u → w.cell? (a.add j) = some u := fun j u hu => by
  rcases hA with hA | hA
  · obtain ⟨b, off, spot⟩ := a
    have hA : spot = none := hA
    subst hA
    exact h.news j u hu
  · have : L = [] := List.eq_nil_of_length_eq_zero hA
    subst this
    simp [El.flat] at hu
/-- append of a slice of elements onto one of the call's own. -/
theorem app_els {α : Type} (E : El α) {t ty : TypeId} {z : Value} {bytes : Nat} (ht : Try.prog.underlying t = some (.slice ty)) (hinfo : (Try.prog.info? ty).map (fun i => (i.zero, i.size, i.bytes)) = some (some z, E.n, bytes)) (hzs : z.cells.size = E.n)
    {ops : Array Oper} {rest : List Oper} {o : Oper} {a : Act} {Q : Exit → Act → World → Prop} (hgd : o.guard = none) (s x : Operand)
    (ho : o.op = .call { callee := .builtin .append, args := #[s, x], argTypes := #[t, t] })
    {base : Nat} {w : World} {v : Value} {S T : List α} {ad : Addr} {c : Nat} (hs : a.eval s = v) (hown : ElOwn E ty w base v S)
    (hx : a.eval x = .slice (some ad) T.length c) (hT : ∀ j u, (E.flat T)[j]? = some u → w.cell? (ad.add j) = some u) (hl : S.length + T.length ≤ 1000000) (hb : bytes ≤ 1000) (hbase : base ≤ w.heap.size)
    (h : ∀ v' w', ElOwn E ty w' base v' (S ++ T) → w.grownBy w' v.ownBlock → Below base w w' → wpList Try.prog ops Q rest (a.put o.dst v') w') :
    wpList Try.prog ops Q (o :: rest) a w := by
  obtain ⟨i0, hi, hz0, hz1, hz2⟩ := info_parts hinfo
  have hbb : (S.length + T.length) * bytes ≤ 1000000 * 1000 := Nat.mul_le_mul hl hb
  refine wpList_append_own w hgd s x t ho base ty i0 z E.n bytes ht hi hz0 hz1 hz2 hzs E.pos v S.length (E.flat S) hs hown _ T.length c (E.flat T) hx (E.flat_len T) hT (E.flat_one T) (by unfold maxLen; omega) (by omega) hbase ?_
  intro v' w' h2 h3 _
  refine h v' w' ?_ h3 ((Below.refl _ _).grown h3 hbase (fun k hk => (World.ownsRow.lt hown k hk).1))
  unfold ElOwn; rw [List.length_append, E.flat_append]; exact h2
/-- append of one element onto a slice of the call's own. -/
theorem app_el {α : Type} (E : El α) {t ty : TypeId} {z : Value} {bytes : Nat} (ht : Try.prog.underlying t = some (.slice ty)) (hinfo : (Try.prog.info? ty).map (fun i => (i.zero, i.size, i.bytes)) = some (some z, E.n, bytes)) (hzs : z.cells.size = E.n)
    {ops : Array Oper} {rest : List Oper} {o : Oper} {a : Act} {Q : Exit → Act → World → Prop} (hgd : o.guard = none) (s x : Operand)
    (ho : o.op = .call { callee := .builtin .append, args := #[s, x], argTypes := #[t, t] })
    {base : Nat} {w : World} {v : Value} {S : List α} (y : α) {C : Array Value} (hC : C = (E.f y).toArray) (hs : a.eval s = v) (hown : ElOwn E ty w base v S)
    (hx : a.eval x = .slice (some ⟨w.heap.size, 0, none⟩) 1 1) (hl : S.length + 1 ≤ 1000000) (hb : bytes ≤ 1000) (hbase : base ≤ w.heap.size)
    (h : ∀ v' w', ElOwn E ty w' base v' (S ++ [y]) → w.grownBy w' v.ownBlock → Below base w w' → wpList Try.prog ops Q rest (a.put o.dst v') w') :
    wpList Try.prog ops Q (o :: rest) a (w.alloc (.cells C ty)) := by
  subst hC
  refine app_els E ht hinfo hzs hgd s x ho (S := S) (T := [y]) (base := base) hs (hown.alloc _) hx (ElAt.lit E w y ty).news hl hb (by simp; omega) ?_
  intro v' w' h2 h3 hb2
  have hg : w.grownBy w' v.ownBlock := ⟨h3.os, h3.tape, h3.output, Nat.le_trans (by simp) h3.size, fun k hk hne => (h3.block k (by simp; omega) hne).trans (Below.heap_alloc w _ k hk)⟩
  exact h v' w' h2 hg (((Below.refl _ _).alloc hbase _).trans hb2)
end Go.Proofs.Ytmnkgfimdlhhiaa
namespace Go.Proofs.Ytmnkgfimdlhhiaa
open Go.RowKit

/-- What a content that is made by dice looks like: its number, its department. -/
def conF (x : Spd) : List Value := [.int .i64 x.1, .int .i64 0, .bool false, .int .i64 0, .string ⟨#[]⟩, .int .i64 x.2, .int .i64 0, .slice none 0 0, .slice none 0 0, .slice none 0 0]
def elC : El Spd := ⟨10, conF, fun _ => rfl, fun x u h => by
  simp only [conF, List.mem_cons, List.not_mem_nil, or_false] at h
  rcases h with rfl | rfl | rfl | rfl | rfl | rfl | rfl | rfl | rfl | rfl <;> rfl, by decide⟩
theorem info_con : (Try.prog.info? 65).map (fun i => (i.zero, i.size, i.bytes)) = some (some (.agg (conF (0, 0)).toArray), 10, 136) := by kernel_rfl
theorem getD_some {L : List Spd} {k : Nat} (h : k < L.length) : L[k]? = some (tS L k, cS L k) := by
  simp [tS, cS, List.getD_eq_getElem?_getD, h]
/-- The cells of content k. -/
theorem con_cells {w : World} {A : Option Addr} {L : List Spd} (h : ElAt elC w A L) {k : Nat} (hk : k < L.length) :
    ∃ b off, A = some ⟨b, off, none⟩ ∧ b < w.heap.size ∧ w.cell? ⟨b, off + k * 10, none⟩ = some (.int .i64 (tS L k)) ∧ w.cell? ⟨b, off + k * 10 + 1, none⟩ = some (.int .i64 0) ∧ w.cell? ⟨b, off + k * 10 + 2, none⟩ = some (.bool false) ∧ w.cell? ⟨b, off + k * 10 + 3, none⟩ = some (.int .i64 0) ∧
      w.cell? ⟨b, off + k * 10 + 4, none⟩ = some (.string ⟨#[]⟩) ∧ w.cell? ⟨b, off + k * 10 + 5, none⟩ = some (.int .i64 (cS L k)) ∧ w.cell? ⟨b, off + k * 10 + 6, none⟩ = some (.int .i64 0) ∧ w.cell? ⟨b, off + k * 10 + 7, none⟩ = some (.slice none 0 0) ∧ w.cell? ⟨b, off + k * 10 + 8, none⟩ = some (.slice none 0 0) ∧ w.cell? ⟨b, off + k * 10 + 9, none⟩ = some (.slice none 0 0) := by
  obtain ⟨b, off, rfl, hlt, hc⟩ := h k _ (getD_some hk)
  exact ⟨b, off, rfl, hlt, hc 0 (by decide), hc 1 (by decide), hc 2 (by decide), hc 3 (by decide), hc 4 (by decide), hc 5 (by decide), hc 6 (by decide), hc 7 (by decide), hc 8 (by decide), hc 9 (by decide)⟩


set_option maxRecDepth 100000 in
set_option maxHeartbeats 1000000 in
theorem count_any (A : Option Addr) (L : List Spd) (c : Nat) (d : Int) (w : World) (hL : ElAt elC w A L) (hl : L.length ≤ 100000) :
    Calls Try.prog 28 #[.slice A L.length c, .int .i64 d] w (RetB (.int .i64 (cntD d L)) w) := by
  have HL := Lib.hid hL
  clear hL
  go_enter Try.func28, Try.ntmps28
  go_wp2_with fail
  go_loopw [10, 5] (fun i n wr => ∃ k : Nat, k ≤ L.length ∧ i = .int .i64 k ∧ n = .int .i64 (cntD d (L.take k)) ∧ Below w.heap.size w wr) (fun i _ _ => L.length - (intOf i).toNat)
  case atStart => exact ⟨0, Nat.zero_le _, rfl, rfl, Below.refl _ _⟩
  case round =>
    obtain ⟨k, hk, rfl, rfl, hbr⟩ := hrel
    have hbs := hbr.size
    by_cases hlt : k < L.length
    · obtain ⟨b, off, rfl, hbl, c0, c1, c2, c3, c4, c5, c6, c7, c8, c9⟩ := con_cells HL.out hlt
      have HT := Lib.hid (cntD_take d hlt)
      obtain ⟨n1, n2⟩ := cntD_range d (L.take k)
      rw [List.length_take] at n2
      rw [← hbr.cell (p := ⟨b, _, none⟩) hbl] at c0 c1 c2 c3 c4 c5 c6 c7 c8 c9
      by_cases he : cS L k = d
      · have HE := Lib.hid he
        have q : (cS L k == d) = true := by simp [he]
        clear he
        go_wp2_with fail
        go_roundw
        case rel => exact ⟨k + 1, by omega, by go_num, by rw [HT.out, oneD_yes HE.out], hbr.alloc hbs _⟩
        case measure => simp [intOf]; omega
      · have HE := Lib.hid he
        have q : (cS L k == d) = false := by simp [he]
        clear he
        go_wp2_with fail
        go_roundw
        case rel => exact ⟨k + 1, by omega, by go_num, by rw [HT.out, oneD_no HE.out, Int.add_zero], hbr.alloc hbs _⟩
        case measure => simp [intOf]; omega
    · go_wp2_with fail
      go_ret
      exact RetB.int (by rw [List.take_of_length_le (by omega)]) hbr

set_option maxRecDepth 100000 in
set_option maxHeartbeats 1000000 in
theorem refCount_any (A : Option Addr) (L : List Spd) (c : Nat) (d : Int) (w : World) (hL : ElAt elC w A L) (hl : L.length ≤ 100000) :
    Calls Try.prog 34 #[.slice A L.length c, .int .i64 d] w (RetB (.int .i64 (cntD d L)) w) := by
  have HL := Lib.hid hL
  clear hL
  go_enter Try.func34, Try.ntmps34
  go_wp2_with fail
  go_loop [6, 5] (fun i n => ∃ k : Nat, k ≤ L.length ∧ i = .int .i64 k ∧ n = .int .i64 (cntD d (L.take k))) (fun i _ => L.length - (intOf i).toNat)
  case atStart => exact ⟨0, Nat.zero_le _, rfl, rfl⟩
  case round =>
    obtain ⟨k, hk, rfl, rfl⟩ := hrel
    by_cases hlt : k < L.length
    · obtain ⟨b, off, rfl, hbl, c0, c1, c2, c3, c4, c5, c6, c7, c8, c9⟩ := con_cells HL.out hlt
      rw [show off + k * 10 + 5 = off + k * 10 + 4 + 1 by omega] at c5
      have HT := Lib.hid (cntD_take d hlt)
      obtain ⟨n1, n2⟩ := cntD_range d (L.take k)
      rw [List.length_take] at n2
      clear c0 c1 c2 c3 c4 c6 c7 c8 c9
      by_cases he : cS L k = d
      · have HE := Lib.hid he
        have q : (cS L k == d) = true := by simp [he]
        clear he
        go_wp2_with fail
        go_round
        case rel => exact ⟨k + 1, by omega, by go_num, by rw [HT.out, oneD_yes HE.out]⟩
        case measure => simp [intOf]; omega
      · have HE := Lib.hid he
        have q : (cS L k == d) = false := by simp [he]
        clear he
        go_wp2_with fail
        go_round
        case rel => exact ⟨k + 1, by omega, by go_num, by rw [HT.out, oneD_no HE.out, Int.add_zero]⟩
        case measure => simp [intOf]; omega
    · go_wp2_with fail
      go_ret
      exact RetB.int (by rw [List.take_of_length_le (by omega)]) (Below.refl _ _)
end Go.Proofs.Ytmnkgfimdlhhiaa
namespace Go.Proofs.Ytmnkgfimdlhhiaa
open Go.RowKit

def IxI (T : Int → Bool) (L : List Int) (i : Int) : Prop := (i = -1 ∧ ∀ j, j < L.length → T (nth L j) = false) ∨ ∃ k : Nat, i = k ∧ k < L.length ∧ T (nth L k) = true
set_option maxHeartbeats 1000000 in
theorem indexInts_any (n : Nat) (us : Array Value) (T : Int → Bool) (B : Option Addr) (L : List Int) (cap : Nat) (w : World) (hI : IntsAt w B L) (hl : L.length ≤ 1099511627776) (hn : ∀ args w, (callFunc n args).run Try.prog w = .ok (.enter n args) w)
    (hT : ∀ w', Below w.heap.size w w' → ∀ k, k < L.length → Calls Try.prog n (#[.int .i64 (nth L k)] ++ us) w' (RetB (.bool (T (nth L k))) w')) :
    Calls Try.prog 75 #[.slice B L.length cap, .func (.func n) #[] us] w (fun e w' => ∃ i : Int, e = .returned (.int .i64 i) ∧ IxI T L i ∧ Below w.heap.size w w') := by
  have HS := Lib.hid hI
  have HT := Lib.hid hT
  clear hI hT
  go_enter Try.func75, Try.ntmps75
  go_wp2_with fail
  go_loopw [8] (fun i wr => ∃ k : Nat, k ≤ L.length ∧ i = .int .i64 k ∧ (∀ j, j < k → T (nth L j) = false) ∧ Below w.heap.size w wr) (fun i _ => L.length - (intOf i).toNat)
  case atStart => exact ⟨0, Nat.zero_le _, rfl, fun j hj => absurd hj (by omega), Below.refl _ _⟩
  case round =>
    obtain ⟨k, hk, rfl, hpre, hbr⟩ := hrel
    have HP := Lib.hid hpre
    clear hpre
    by_cases hlt : k < L.length
    · obtain ⟨b, off, rfl, hbl, c1⟩ := HS.out k hlt
      have d1 := (hbr.cell hbl).trans c1
      have hbs := hbr.size
      clear c1
      go_wp2_with fail
      refine ret_below (HT.out _ hbr k hlt) fun w2 hb2 => ?_
      generalize hx : T (nth L k) = tv at *
      have HX := Lib.hid hx
      clear hx
      have hbw : Below w.heap.size w w2 := hbr.trans (hb2.mono hbs)
      cases tv with
      | true =>
        go_wp2_with fail
        go_ret
        exact ⟨_, rfl, .inr ⟨k, rfl, hlt, HX.out⟩, hbw⟩
      | false =>
        go_wp2_with fail
        go_roundw
        case rel =>
          refine ⟨k + 1, by omega, by go_num, fun j hj => ?_, hbw⟩
          by_cases hjk : j = k
          · subst hjk; exact HX.out
          · exact HP.out j (by omega)
        case measure => simp [intOf]; omega
    · go_wp2_with fail
      go_ret
      exact ⟨_, rfl, .inl ⟨rfl, fun j hj => HP.out j (by omega)⟩, hbr⟩
theorem ixI_any {T : Int → Bool} {L : List Int} {i : Int} (h : IxI T L i) : decide (0 ≤ i) = L.any T := by
  rcases h with ⟨rfl, h⟩ | ⟨k, rfl, hk, ht⟩
  · have : L.any T = false := by
      rw [List.any_eq_false]
      intro x hx
      obtain ⟨j, hj, rfl⟩ := List.getElem_of_mem hx
      have := h j hj
      rw [nth_eq hj] at this; simp [this]
    rw [this]; rfl
  · have : L.any T = true := by
      rw [List.any_eq_true]
      exact ⟨nth L k, by rw [nth_eq hk]; exact List.getElem_mem hk, ht⟩
    rw [this]; exact decide_eq_true (by omega)
set_option maxHeartbeats 400000 in
theorem containsInts_any (n : Nat) (us : Array Value) (T : Int → Bool) (B : Option Addr) (L : List Int) (cap : Nat) (w : World) (hI : IntsAt w B L) (hl : L.length ≤ 1099511627776) (hn : ∀ args w, (callFunc n args).run Try.prog w = .ok (.enter n args) w)
    (hT : ∀ w', Below w.heap.size w w' → ∀ k, k < L.length → Calls Try.prog n (#[.int .i64 (nth L k)] ++ us) w' (RetB (.bool (T (nth L k))) w')) :
    Calls Try.prog 59 #[.slice B L.length cap, .func (.func n) #[] us] w (RetB (.bool (L.any T)) w) := by
  have HC := Lib.hid (indexInts_any n us T B L cap w hI hl hn hT)
  clear hI hn hT
  go_enter Try.func59, Try.ntmps59
  go_wp2_with fail
  refine HC.out.mono ?_
  rintro e w1 ⟨i, rfl, hi, hb⟩
  have HI := Lib.hid (ixI_any hi)
  clear hi
  go_wp2_with fail
  go_ret
  exact RetB.bool HI.out hb
end Go.Proofs.Ytmnkgfimdlhhiaa
namespace Go.Proofs.Ytmnkgfimdlhhiaa
open Go.RowKit

def powW (x : Int) : Nat → Int
  | 0 => 1
  | k+1 => wrap64 (powW x k * x)
def nOK (T A B : Int) : Bool := decide (1 ≤ T ∧ T ≤ 24 ∧ 1 ≤ A ∧ A < B ∧ B ≤ 4)
def checkN (T A B : Int) : Int := if nOK T A B then 0 else 57
theorem checkN_ok {T A B : Int} (h : 1 ≤ T ∧ T ≤ 24 ∧ 1 ≤ A ∧ A < B ∧ B ≤ 4) : checkN T A B = 0 := by unfold checkN nOK; simp [h]
theorem checkN_bad {T A B : Int} (h : ¬ (1 ≤ T ∧ T ≤ 24 ∧ 1 ≤ A ∧ A < B ∧ B ≤ 4)) : checkN T A B = 57 := by unfold checkN nOK; simp [h]
abbrev nz (T A B : Int) : Value := .agg #[.int .i64 T, .int .i64 A, .int .i64 B]
def weightW (T A B c z : Int) : Int :=
  if z = 0 ∨ z = T then wrap64 (wrap64 (powW A (max (c - z) (z - c)).toNat * powW B (T - max (c - z) (z - c)).toNat) * B)
  else wrap64 (wrap64 (powW A (max (c - z) (z - c)).toNat * powW B (T - max (c - z) (z - c)).toNat) * (B - A))
theorem weightW_eq {T A B c z d x : Int} (hd : max (c - z) (z - c) = d) (hx : wrap64 (powW A d.toNat * powW B (T - d).toNat) = x) (hz : z = 0 ∨ z = T) : wrap64 (x * B) = weightW T A B c z := by
  unfold weightW; rw [if_pos hz, hd, hx]
theorem weightW_ne {T A B c z d x : Int} (hd : max (c - z) (z - c) = d) (hx : wrap64 (powW A d.toNat * powW B (T - d).toNat) = x) (hz : ¬ (z = 0 ∨ z = T)) : wrap64 (x * (B - A)) = weightW T A B c z := by
  unfold weightW; rw [if_neg hz, hd, hx]
def inB (n l h : Int) : Bool := decide (l ≤ n ∧ n ≤ h)
theorem inB_t {n l h : Int} (q : l ≤ n ∧ n ≤ h) : true = inB n l h := by simp [inB, q]
theorem inB_f {n l h : Int} (q : ¬ (l ≤ n ∧ n ≤ h)) : false = inB n l h := by simp [inB, q]

set_option maxHeartbeats 400000 in
theorem power_any (x n : Int) (w : World) (hn : n ≤ 9223372036854775807) :
    Calls Try.prog 73 #[.int .i64 x, .int .i64 n] w (Ret (.int .i64 (powW x n.toNat)) w) := by
  go_enter Try.func73, Try.ntmps73
  go_wp2
  go_loop [5, 7] (fun o i => ∃ k : Nat, k ≤ n.toNat ∧ i = .int .i64 k ∧ o = .int .i64 (powW x k)) (fun _ i => n.toNat - (intOf i).toNat)
  case atStart => exact ⟨0, Nat.zero_le _, rfl, rfl⟩
  case round =>
    obtain ⟨k, hk, rfl, rfl⟩ := hrel
    by_cases hlt : (k : Int) < n
    · go_wp2
      go_round
      case rel => exact ⟨k + 1, by omega, by go_num, rfl⟩
      case measure => simp [intOf]; omega
    · go_wp2
      go_ret
      exact Ret.int (by rw [show n.toNat = k by omega])

set_option maxHeartbeats 400000 in
theorem rpower_any (x n : Int) (w : World) (hn : n ≤ 9223372036854775807) :
    Calls Try.prog 64 #[.int .i64 x, .int .i64 n] w (Ret (.int .i64 (powW x n.toNat)) w) := by
  go_enter Try.func64, Try.ntmps64
  go_wp2
  go_loop [5, 6] (fun o i => ∃ k : Nat, k ≤ n.toNat ∧ i = .int .i64 k ∧ o = .int .i64 (powW x k)) (fun _ i => n.toNat - (intOf i).toNat)
  case atStart => exact ⟨0, Nat.zero_le _, rfl, rfl⟩
  case round =>
    obtain ⟨k, hk, rfl, rfl⟩ := hrel
    by_cases hlt : (k : Int) < n
    · go_wp2
      go_round
      case rel => exact ⟨k + 1, by omega, by go_num, rfl⟩
      case measure => simp [intOf]; omega
    · go_wp2
      go_ret
      exact Ret.int (by rw [show n.toNat = k by omega])

set_option maxHeartbeats 400000 in
theorem inB_any (n l h : Int) (w : World) :
    Calls Try.prog 49 #[.int .i64 n, .int .i64 l, .int .i64 h] w (Ret (.bool (inB n l h)) w) := by
  by_cases h1 : l ≤ n <;> by_cases h2 : n ≤ h
  all_goals
    go_enter Try.func49, Try.ntmps49
    go_wp2
    go_ret
    first | exact Ret.bool (inB_t ⟨h1, h2⟩) | exact Ret.bool (inB_f (by omega))

set_option maxHeartbeats 400000 in
theorem ncheck_any (T A B : Int) (w : World) :
    Calls Try.prog 55 #[nz T A B] w (RetB (.int .i64 (checkN T A B)) w) := by
  go_enter Try.func55, Try.ntmps55
  go_wp2
  all_goals go_ret
  all_goals refine RetB.int ?_ ((Below.refl _ _).alloc (Nat.le_refl _) _)
  all_goals first | exact (checkN_ok (by omega)).symm | exact (checkN_bad (by omega)).symm

set_option maxHeartbeats 400000 in
theorem rcheck_any (T A B : Int) (w : World) :
    Calls Try.prog 63 #[nz T A B] w (RetB (.int .i64 (checkN T A B)) w) := by
  go_enter Try.func63, Try.ntmps63
  go_wp2
  all_goals go_ret
  all_goals refine RetB.int ?_ ((Below.refl _ _).alloc (Nat.le_refl _) _)
  all_goals first | exact (checkN_ok (by omega)).symm | exact (checkN_bad (by omega)).symm

set_option maxHeartbeats 400000 in
theorem weight_any (T A B c z : Int) (w : World) (ht : 1 ≤ T) (ht2 : T ≤ 24) (hA : 1 ≤ A) (hAB : A < B) (hB : B ≤ 4) (hc : 0 ≤ c) (hc2 : c ≤ T) (hz : 0 ≤ z) (hz2 : z ≤ T) :
    Calls Try.prog 77 #[nz T A B, .int .i64 c, .int .i64 z] w (RetB (.int .i64 (weightW T A B c z)) w) := by
  go_enter Try.func77, Try.ntmps77
  go_wp2
  all_goals go_quiet ((go_at_call 73; exact Calls.quiet_of_same (power_any _ _ _ (by omega))))
  all_goals go_wp2
  all_goals go_ret
  all_goals refine RetB.int ?_ (((Below.refl _ _).alloc (Nat.le_refl _) _).trans ⟨rfl, rfl, rfl, Nat.le_refl _, fun _ _ => rfl⟩)
  all_goals first | exact weightW_eq (by omega) rfl (by simp_all) | exact weightW_ne (by omega) rfl (by simp_all)

set_option maxHeartbeats 400000 in
theorem rweight_any (T A B c z : Int) (w : World) (ht : 1 ≤ T) (ht2 : T ≤ 24) (hA : 1 ≤ A) (hAB : A < B) (hB : B ≤ 4) (hc : 0 ≤ c) (hc2 : c ≤ T) (hz : 0 ≤ z) (hz2 : z ≤ T) :
    Calls Try.prog 79 #[nz T A B, .int .i64 c, .int .i64 z] w (RetB (.int .i64 (weightW T A B c z)) w) := by
  go_enter Try.func79, Try.ntmps79
  go_wp2
  all_goals go_quiet ((go_at_call 64; exact Calls.quiet_of_same (rpower_any _ _ _ (by omega))))
  all_goals go_wp2
  all_goals go_ret
  all_goals refine RetB.int ?_ (((Below.refl _ _).alloc (Nat.le_refl _) _).trans ⟨rfl, rfl, rfl, Nat.le_refl _, fun _ _ => rfl⟩)
  all_goals first | exact weightW_eq (by omega) rfl (by simp_all) | exact weightW_ne (by omega) rfl (by simp_all)

end Go.Proofs.Ytmnkgfimdlhhiaa
namespace Go.Proofs.Ytmnkgfimdlhhiaa
open Go.RowKit

def totalW (T A B : Int) : Int := wrap64 ((A + B) * powW B T.toNat)

set_option maxHeartbeats 400000 in
theorem total_ok (T A B : Int) (w : World) (ht : 1 ≤ T) (ht2 : T ≤ 24) (hA : 1 ≤ A) (hAB : A < B) (hB : B ≤ 4) :
    Calls Try.prog 57 #[nz T A B] w (RetB (.int .i64 (totalW T A B)) w) := by
  have HCK := Lib.hid (checkN_ok (T := T) (A := A) (B := B) (by omega))
  go_enter Try.func57, Try.ntmps57
  go_wp2_with fail
  refine (ncheck_any T A B _).mono ?_
  rintro e w1 ⟨rfl, hb⟩
  rw [HCK.out]
  obtain ⟨hc1, hf1⟩ := bcell hb
  go_wp2
  go_quiet ((go_at_call 73; exact Calls.quiet_of_same (power_any _ _ _ (by omega))))
  go_wp2
  go_ret
  exact RetB.int rfl (((Below.refl _ _).alloc (Nat.le_refl _) _).trans ((hb.mono (by simp)).trans ⟨rfl, rfl, rfl, Nat.le_refl _, fun _ _ => rfl⟩))

set_option maxHeartbeats 400000 in
theorem total_bad (T A B : Int) (w : World) (h : ¬ (1 ≤ T ∧ T ≤ 24 ∧ 1 ≤ A ∧ A < B ∧ B ≤ 4)) :
    Calls Try.prog 57 #[nz T A B] w (RetB (.int .i64 0) w) := by
  have HCK := Lib.hid (checkN_bad h)
  clear h
  go_enter Try.func57, Try.ntmps57
  go_wp2_with fail
  refine (ncheck_any T A B _).mono ?_
  rintro e w1 ⟨rfl, hb⟩
  rw [HCK.out]
  go_wp2
  go_ret
  exact RetB.int rfl (((Below.refl _ _).alloc (Nat.le_refl _) _).trans (hb.mono (by simp)))

set_option maxHeartbeats 400000 in
theorem rtotal_ok (T A B : Int) (w : World) (ht : 1 ≤ T) (ht2 : T ≤ 24) (hA : 1 ≤ A) (hAB : A < B) (hB : B ≤ 4) :
    Calls Try.prog 30 #[nz T A B] w (RetB (.int .i64 (totalW T A B)) w) := by
  have HCK := Lib.hid (checkN_ok (T := T) (A := A) (B := B) (by omega))
  go_enter Try.func30, Try.ntmps30
  go_wp2_with fail
  refine (rcheck_any T A B _).mono ?_
  rintro e w1 ⟨rfl, hb⟩
  rw [HCK.out]
  obtain ⟨hc1, hf1⟩ := bcell hb
  go_wp2
  go_quiet ((go_at_call 64; exact Calls.quiet_of_same (rpower_any _ _ _ (by omega))))
  go_wp2
  go_ret
  exact RetB.int rfl (((Below.refl _ _).alloc (Nat.le_refl _) _).trans ((hb.mono (by simp)).trans ⟨rfl, rfl, rfl, Nat.le_refl _, fun _ _ => rfl⟩))

set_option maxHeartbeats 400000 in
theorem rtotal_bad (T A B : Int) (w : World) (h : ¬ (1 ≤ T ∧ T ≤ 24 ∧ 1 ≤ A ∧ A < B ∧ B ≤ 4)) :
    Calls Try.prog 30 #[nz T A B] w (RetB (.int .i64 0) w) := by
  have HCK := Lib.hid (checkN_bad h)
  clear h
  go_enter Try.func30, Try.ntmps30
  go_wp2_with fail
  refine (rcheck_any T A B _).mono ?_
  rintro e w1 ⟨rfl, hb⟩
  rw [HCK.out]
  go_wp2
  go_ret
  exact RetB.int rfl (((Below.refl _ _).alloc (Nat.le_refl _) _).trans (hb.mono (by simp)))

set_option maxHeartbeats 400000 in
theorem rin_any (T A B c : Int) (w : World) :
    Calls Try.prog 78 #[nz T A B, .int .i64 c] w (RetB (.bool (inB c 0 T)) w) := by
  by_cases h1 : 0 ≤ c <;> by_cases h2 : c ≤ T
  all_goals
    go_enter Try.func78, Try.ntmps78
    go_wp2
    go_ret
    refine RetB.bool ?_ ((Below.refl _ _).alloc (Nat.le_refl _) _)
    first | exact (inB_t ⟨h1, h2⟩) | exact (inB_f (by omega))

def clampW (T c : Int) : Int := min (max c 0) T
set_option maxHeartbeats 400000 in
theorem clamp_any (T A B c : Int) (w : World) :
    Calls Try.prog 76 #[nz T A B, .int .i64 c] w (RetB (.int .i64 (clampW T c)) w) := by
  go_enter Try.func76, Try.ntmps76
  go_wp2
  all_goals go_ret
  all_goals refine RetB.int (by unfold clampW; omega) ((Below.refl _ _).alloc (Nat.le_refl _) _)
def rclampW (T c : Int) : Int := max 0 (min T c)
theorem rclamp_eq {T c : Int} (h : 0 ≤ T) : clampW T c = rclampW T c := by unfold clampW rclampW; omega
set_option maxHeartbeats 400000 in
theorem rclamp_any (T A B c : Int) (w : World) :
    Calls Try.prog 68 #[nz T A B, .int .i64 c] w (RetB (.int .i64 (rclampW T c)) w) := by
  go_enter Try.func68, Try.ntmps68
  go_wp2
  all_goals go_ret
  all_goals refine RetB.int (by unfold rclampW; omega) ((Below.refl _ _).alloc (Nat.le_refl _) _)

def gcdI (x y : Int) : Int := (Int.gcd x y : Nat)
theorem gcd_step (a b : Int) (ha : 0 ≤ a) (hb : 0 ≤ b) : Int.gcd b (a % b) = Int.gcd a b := by
  obtain ⟨x, rfl⟩ := Int.eq_ofNat_of_zero_le ha
  obtain ⟨y, rfl⟩ := Int.eq_ofNat_of_zero_le hb
  rw [← Int.natCast_emod, Int.gcd_natCast_natCast, Int.gcd_natCast_natCast, Nat.gcd_comm, ← Nat.gcd_rec, Nat.gcd_comm]

def weightsL (T A B c : Int) (n : Nat) : List Int := (List.range n).map (fun z : Nat => weightW T A B c (z : Int))
theorem weightsL_succ (T A B c : Int) (n : Nat) : weightsL T A B c (n + 1) = weightsL T A B c n ++ [weightW T A B c n] := by
  unfold weightsL; rw [List.range_succ, List.map_append]; rfl
theorem weightsL_len (T A B c : Int) (n : Nat) : (weightsL T A B c n).length = n := by simp [weightsL]
/-- What Weights returns: the error and the list. -/
def wErr (T A B c : Int) : Int := if nOK T A B then (if inB c 0 T then 0 else 2) else 57
def wLst (T A B c : Int) : List Int := if nOK T A B then (if inB c 0 T then weightsL T A B c (T + 1).toNat else []) else []
def WeightsP (T A B c : Int) (w : World) : Ending → World → Prop :=
  RetP (fun v w' => ∃ u, v = .tuple #[u, .int .i64 (wErr T A B c)] ∧ w'.ownsRow w.heap.size 3 1 u (wLst T A B c).length ((wLst T A B c).map (Value.int .i64))) w
def Good (T A B : Int) : Prop := 1 ≤ T ∧ T ≤ 24 ∧ 1 ≤ A ∧ A < B ∧ B ≤ 4
theorem nOK_t {T A B : Int} (h : Good T A B) : nOK T A B = true := decide_eq_true h
theorem nOK_f {T A B : Int} (h : ¬ Good T A B) : nOK T A B = false := decide_eq_false h
theorem WeightsP.bad {T A B c : Int} {w w' : World} (h : ¬ Good T A B) (hb : Below w.heap.size w w') : WeightsP T A B c w (.returned (.tuple #[.slice none 0 0, .int .i64 57])) w' := by
  refine RetP.mk hb ⟨.slice none 0 0, ?_, ?_⟩
  · rw [wErr, nOK_f h]; rfl
  · rw [wLst, nOK_f h]; exact World.ownsRow_nil _ _ _ _
theorem WeightsP.out {T A B c : Int} {w w' : World} (h : Good T A B) (hc : ¬ (0 ≤ c ∧ c ≤ T)) (hb : Below w.heap.size w w') : WeightsP T A B c w (.returned (.tuple #[.slice none 0 0, .int .i64 2])) w' := by
  refine RetP.mk hb ⟨.slice none 0 0, ?_, ?_⟩
  · rw [wErr, nOK_t h, ← inB_f hc]; rfl
  · rw [wLst, nOK_t h, ← inB_f hc]; exact World.ownsRow_nil _ _ _ _
theorem WeightsP.good {T A B c : Int} {w w' : World} {u : Value} (h : Good T A B) (hc : 0 ≤ c ∧ c ≤ T) (hb : Below w.heap.size w w')
    (ho : w'.ownsRow w.heap.size 3 1 u (T + 1).toNat ((weightsL T A B c (T + 1).toNat).map (Value.int .i64))) : WeightsP T A B c w (.returned (.tuple #[u, .int .i64 0])) w' := by
  refine RetP.mk hb ⟨u, ?_, ?_⟩
  · rw [wErr, nOK_t h, ← inB_t hc]; rfl
  · have e : wLst T A B c = weightsL T A B c (T + 1).toNat := by rw [wLst, nOK_t h, ← inB_t hc]; rfl
    rw [e, weightsL_len]; exact ho

set_option maxHeartbeats 400000 in
theorem weights_any_good (T A B c : Int) (w : World) (h : Good T A B) (hc : 0 ≤ c) (hcT : c ≤ T) :
    Calls Try.prog 62 #[nz T A B, .int .i64 c] w (WeightsP T A B c w) := by
  have HG := Lib.hid h
  obtain ⟨ht, ht2, hA, hAB, hB⟩ := h
  have HCK := Lib.hid (checkN_ok (T := T) (A := A) (B := B) (by omega))
  have HIN := Lib.hid (inB_t (n := c) (l := 0) (h := T) (by omega)).symm
  go_enter Try.func62, Try.ntmps62
  go_wp2_with fail
  refine (ncheck_any T A B _).mono ?_
  rintro e w1 ⟨rfl, hb⟩
  rw [HCK.out]
  obtain ⟨hc1, hf1⟩ := bcell hb
  go_wp2_with fail
  refine (inB_any c 0 T _).mono ?_
  rintro e w2 ⟨rfl, rfl⟩
  rw [HIN.out]
  go_wp2_with fail
  go_loopw [6, 21] (fun o i wr => ∃ k : Nat, (k : Int) ≤ T + 1 ∧ i = .int .i64 k ∧ wr.ownsRow (w.heap.size + 1) 3 1 o k ((weightsL T A B c k).map (Value.int .i64)) ∧ Below (w.heap.size + 1) w2 wr) (fun _ i _ => (T + 1).toNat - (intOf i).toNat)
  case atStart => exact ⟨0, by omega, rfl, World.ownsRow_nil _ _ _ _, Below.refl _ _⟩
  case round =>
    obtain ⟨k, hk, rfl, hown, hbw⟩ := hrel
    have hz := hbw.size
    have hz2 := hb.size
    simp at hz2
    obtain ⟨hc2, hf2⟩ := bcell hbw
    by_cases hlt : (k : Int) < T + 1
    · go_wp2_with fail
      refine (weight_any T A B c k _ ht ht2 hA hAB hB hc hcT (by omega) (by omega)).mono ?_
      rintro e w3 ⟨rfl, hb3⟩
      have hown3 := own_below hown hb3
      have hz3 := hb3.size
      have HWS := Lib.hid (weightsL_succ T A B c k)
      go_wp2_with (at_builtin; refine app_one rfl (.tmp 24) (.tmp 29) 27 rfl (base := w.heap.size + 1) Try.underlying27 info_int rfl rfl hown3 rfl rfl (by simp only [maxLen]; omega) (by omega) (by omega) ?_; intro v4 w4 hown4 hg4 hb4)
      go_roundw
      case rel =>
        refine ⟨k + 1, by omega, by go_num, ?_, (hbw.trans (hb3.mono (by omega))).trans hb4⟩
        rw [HWS.out]; simpa using hown4
      case measure => simp [intOf]; omega
    · have HK := Lib.hid (show (T + 1).toNat = k by omega)
      go_wp2
      go_ret2
      refine WeightsP.good HG.out ⟨hc, hcT⟩ ?_ (by rw [HK.out]; exact ownsRow_mono hown (by omega))
      exact ((Below.refl _ _).alloc (Nat.le_refl _) _).trans ((hb.mono (by simp)).trans (hbw.mono (by omega)))

set_option maxHeartbeats 400000 in
theorem weights_any_bad (T A B c : Int) (w : World) (h : ¬ Good T A B) :
    Calls Try.prog 62 #[nz T A B, .int .i64 c] w (WeightsP T A B c w) := by
  have HG := Lib.hid h
  have HCK := Lib.hid (checkN_bad h)
  clear h
  go_enter Try.func62, Try.ntmps62
  go_wp2_with fail
  refine (ncheck_any T A B _).mono ?_
  rintro e w1 ⟨rfl, hb⟩
  rw [HCK.out]
  go_wp2
  go_ret2
  exact WeightsP.bad HG.out (((Below.refl _ _).alloc (Nat.le_refl _) _).trans (hb.mono (by simp)))

set_option maxHeartbeats 400000 in
theorem weights_any_out (T A B c : Int) (w : World) (h : Good T A B) (hc : ¬ (0 ≤ c ∧ c ≤ T)) :
    Calls Try.prog 62 #[nz T A B, .int .i64 c] w (WeightsP T A B c w) := by
  have HG := Lib.hid h
  have HC := Lib.hid hc
  have HCK := Lib.hid (checkN_ok h)
  have HIN := Lib.hid (inB_f hc).symm
  clear h hc
  go_enter Try.func62, Try.ntmps62
  go_wp2_with fail
  refine (ncheck_any T A B _).mono ?_
  rintro e w1 ⟨rfl, hb⟩
  rw [HCK.out]
  obtain ⟨hc1, hf1⟩ := bcell hb
  go_wp2_with fail
  refine (inB_any c 0 T _).mono ?_
  rintro e w2 ⟨rfl, rfl⟩
  rw [HIN.out]
  go_wp2
  go_ret2
  exact WeightsP.out HG.out HC.out (((Below.refl _ _).alloc (Nat.le_refl _) _).trans (hb.mono (by simp)))

theorem weights_any (T A B c : Int) (w : World) : Calls Try.prog 62 #[nz T A B, .int .i64 c] w (WeightsP T A B c w) := by
  by_cases h : Good T A B
  · by_cases hc : 0 ≤ c ∧ c ≤ T
    · exact weights_any_good T A B c w h hc.1 hc.2
    · exact weights_any_out T A B c w h hc
  · exact weights_any_bad T A B c w h

set_option maxHeartbeats 400000 in
theorem rweights_any_good (T A B c : Int) (w : World) (h : Good T A B) (hc : 0 ≤ c) (hcT : c ≤ T) :
    Calls Try.prog 69 #[nz T A B, .int .i64 c] w (WeightsP T A B c w) := by
  have HG := Lib.hid h
  obtain ⟨ht, ht2, hA, hAB, hB⟩ := h
  have HCK := Lib.hid (checkN_ok (T := T) (A := A) (B := B) (by omega))
  have HIN := Lib.hid (inB_t (n := c) (l := 0) (h := T) (by omega)).symm
  go_enter Try.func69, Try.ntmps69
  go_wp2_with fail
  refine (rcheck_any T A B _).mono ?_
  rintro e w1 ⟨rfl, hb⟩
  rw [HCK.out]
  obtain ⟨hc1, hf1⟩ := bcell hb
  go_wp2_with fail
  refine (rin_any T A B c _).mono ?_
  rintro e w2 ⟨rfl, hb'⟩
  replace hb := hb.trans (hb'.mono hb.size)
  obtain ⟨hc1, hf1⟩ := bcell hb
  rw [HIN.out]
  go_wp2_with fail
  go_loopw [6, 7] (fun o i wr => ∃ k : Nat, (k : Int) ≤ T + 1 ∧ i = .int .i64 k ∧ wr.ownsRow (w.heap.size + 1) 3 1 o k ((weightsL T A B c k).map (Value.int .i64)) ∧ Below (w.heap.size + 1) w2 wr) (fun _ i _ => (T + 1).toNat - (intOf i).toNat)
  case atStart => exact ⟨0, by omega, rfl, World.ownsRow_nil _ _ _ _, Below.refl _ _⟩
  case round =>
    obtain ⟨k, hk, rfl, hown, hbw⟩ := hrel
    have hz := hbw.size
    have hz2 := hb.size
    simp at hz2
    obtain ⟨hc2, hf2⟩ := bcell hbw
    by_cases hlt : (k : Int) < T + 1
    · go_wp2_with fail
      refine (rweight_any T A B c k _ ht ht2 hA hAB hB hc hcT (by omega) (by omega)).mono ?_
      rintro e w3 ⟨rfl, hb3⟩
      have hown3 := own_below hown hb3
      have hz3 := hb3.size
      have HWS := Lib.hid (weightsL_succ T A B c k)
      go_wp2_with (at_builtin; refine app_one rfl (.tmp 21) (.tmp 26) 27 rfl (base := w.heap.size + 1) Try.underlying27 info_int rfl rfl hown3 rfl rfl (by simp only [maxLen]; omega) (by omega) (by omega) ?_; intro v4 w4 hown4 hg4 hb4)
      go_roundw
      case rel =>
        refine ⟨k + 1, by omega, by go_num, ?_, (hbw.trans (hb3.mono (by omega))).trans hb4⟩
        rw [HWS.out]; simpa using hown4
      case measure => simp [intOf]; omega
    · have HK := Lib.hid (show (T + 1).toNat = k by omega)
      go_wp2
      go_ret2
      refine WeightsP.good HG.out ⟨hc, hcT⟩ ?_ (by rw [HK.out]; exact ownsRow_mono hown (by omega))
      exact ((Below.refl _ _).alloc (Nat.le_refl _) _).trans ((hb.mono (by simp)).trans (hbw.mono (by omega)))

set_option maxHeartbeats 400000 in
theorem rweights_any_bad (T A B c : Int) (w : World) (h : ¬ Good T A B) :
    Calls Try.prog 69 #[nz T A B, .int .i64 c] w (WeightsP T A B c w) := by
  have HG := Lib.hid h
  have HCK := Lib.hid (checkN_bad h)
  clear h
  go_enter Try.func69, Try.ntmps69
  go_wp2_with fail
  refine (rcheck_any T A B _).mono ?_
  rintro e w1 ⟨rfl, hb⟩
  rw [HCK.out]
  go_wp2
  go_ret2
  exact WeightsP.bad HG.out (((Below.refl _ _).alloc (Nat.le_refl _) _).trans (hb.mono (by simp)))

set_option maxHeartbeats 400000 in
theorem rweights_any_out (T A B c : Int) (w : World) (h : Good T A B) (hc : ¬ (0 ≤ c ∧ c ≤ T)) :
    Calls Try.prog 69 #[nz T A B, .int .i64 c] w (WeightsP T A B c w) := by
  have HG := Lib.hid h
  have HC := Lib.hid hc
  have HCK := Lib.hid (checkN_ok h)
  have HIN := Lib.hid (inB_f hc).symm
  clear h hc
  go_enter Try.func69, Try.ntmps69
  go_wp2_with fail
  refine (rcheck_any T A B _).mono ?_
  rintro e w1 ⟨rfl, hb⟩
  rw [HCK.out]
  obtain ⟨hc1, hf1⟩ := bcell hb
  go_wp2_with fail
  refine (rin_any T A B c _).mono ?_
  rintro e w2 ⟨rfl, hb'⟩
  replace hb := hb.trans (hb'.mono hb.size)
  obtain ⟨hc1, hf1⟩ := bcell hb
  rw [HIN.out]
  go_wp2
  go_ret2
  exact WeightsP.out HG.out HC.out (((Below.refl _ _).alloc (Nat.le_refl _) _).trans (hb.mono (by simp)))

theorem rweights_any (T A B c : Int) (w : World) : Calls Try.prog 69 #[nz T A B, .int .i64 c] w (WeightsP T A B c w) := by
  by_cases h : Good T A B
  · by_cases hc : 0 ≤ c ∧ c ≤ T
    · exact rweights_any_good T A B c w h hc.1 hc.2
    · exact rweights_any_out T A B c w h hc
  · exact rweights_any_bad T A B c w h
end Go.Proofs.Ytmnkgfimdlhhiaa
namespace Go.Proofs.Ytmnkgfimdlhhiaa
open Go.RowKit

theorem first_k {P : Nat → Prop} (h : P 0) : ∀ j, j < 0 + 1 → P j := fun j hj => by
  have : j = 0 := by omega
  subst this; exact h
def risB (l : List Int) : Bool := decide (∀ k, k < l.length → RowK l k)
theorem risB_at {l : List Int} {k : Nat} (hk : k < l.length) (h : ¬ RowK l k) : false = risB l := (decide_eq_false (fun H => h (H k hk))).symm
theorem risB_all {l : List Int} (h : ∀ k, k < l.length → RowK l k) : true = risB l := (decide_eq_true h).symm
theorem rowsB_ris {l : List Int} (h : 1 ≤ l.length ∧ l.length ≤ 64) : risB l = rowsB l := by
  by_cases h2 : ∀ k, k < l.length → RowK l k
  · rw [← risB_all h2]; exact rowsB_yes h h2
  · unfold risB rowsB
    rw [decide_eq_false h2]; exact (decide_eq_false (fun H : RowsOK l => h2 H.2)).symm
set_option maxRecDepth 100000 in
set_option maxHeartbeats 1000000 in
theorem rising_any (A : Option Addr) (l : List Int) (c : Nat) (w : World) (hI : IntsAt w A l) (hl : l.length ≤ 1152921504606846976) :
    Calls Try.prog 74 #[.slice A l.length c, .int .i64 0, .int .i64 63] w (Ret (.bool (risB l)) w) := by
  have HI := Lib.hid hI
  clear hI
  go_enter Try.func74, Try.ntmps74
  go_wp2_with fail
  go_loop [11] (fun i => ∃ k : Nat, k ≤ l.length ∧ i = .int .i64 k ∧ ∀ j, j < k → RowK l j) (fun i => l.length - (intOf i).toNat)
  case atStart => exact ⟨0, Nat.zero_le _, rfl, fun j hj => absurd hj (by omega)⟩
  case round =>
    obtain ⟨k, hk, rfl, hpre⟩ := hrel
    have HP := Lib.hid hpre
    clear hpre
    by_cases hlt : k < l.length
    · obtain ⟨b, off, rfl, hbl, hcell⟩ := HI.out k hlt
      by_cases t1 : 0 ≤ nth l k ∧ nth l k ≤ 63
      · rcases k with _ | j
        · have HV := Lib.hid (show RowK l 0 from ⟨t1.1, t1.2, fun h => absurd h (by omega)⟩)
          rw [Nat.add_zero] at hcell
          go_wp2_with fail
          refine ret_pure (in_yes _ 0 63 t1 _) ?_
          go_wp2_with fail
          go_round
          case rel => exact ⟨0 + 1, by omega, by go_num, first_k HV.out⟩
          case measure => simp [intOf]; omega
        · obtain ⟨b', off', e, _, hcell'⟩ := HI.out j (by omega)
          injection e with e
          injection e with e1 e2
          subst e1; subst e2
          have HT := Lib.hid t1
          clear t1
          by_cases t3 : nth l (j + 1) ≤ nth l j
          · have HV := Lib.hid (risB_at hlt (fun h : RowK l (j + 1) => by have := h.2.2 (by omega); rw [show j + 1 - 1 = j by omega] at this; omega))
            go_wp2_with fail
            refine ret_pure (in_yes _ 0 63 HT.out _) ?_
            go_wp2_with fail
            go_ret
            exact Ret.bool HV.out
          · have HV := Lib.hid (show RowK l (j + 1) from ⟨HT.out.1, HT.out.2, fun _ => by rw [show j + 1 - 1 = j by omega]; omega⟩)
            go_wp2_with fail
            refine ret_pure (in_yes _ 0 63 HT.out _) ?_
            go_wp2_with fail
            go_round
            case rel =>
              refine ⟨(j + 1) + 1, by omega, by go_num, fun i hi => ?_⟩
              by_cases e : i = j + 1
              · subst e; exact HV.out
              · exact HP.out i (by omega)
            case measure => simp [intOf]; omega
      · have HV := Lib.hid (risB_at hlt (fun h : RowK l k => t1 ⟨h.1, h.2.1⟩))
        have HT := Lib.hid t1
        clear t1
        go_wp2_with fail
        refine ret_pure (in_no _ 0 63 HT.out _) ?_
        go_wp2_with fail
        go_ret
        exact Ret.bool HV.out
    · have HV := Lib.hid (risB_all (fun j (hj : j < l.length) => HP.out j (by omega)))
      go_wp2_with fail
      go_ret
      exact Ret.bool HV.out
set_option maxHeartbeats 400000 in
theorem rows_any (A : Option Addr) (l : List Int) (c : Nat) (w : World) (hI : IntsAt w A l) (hl : l.length ≤ 1152921504606846976) :
    Calls Try.prog 58 #[.slice A l.length c] w (Ret (.bool (rowsB l)) w) := by
  have HI := Lib.hid hI
  clear hI
  by_cases h : 1 ≤ l.length ∧ l.length ≤ 64
  · have HV := Lib.hid (rowsB_ris h)
    have HH := Lib.hid (show (1 : Int) ≤ (l.length : Int) ∧ (l.length : Int) ≤ 64 by omega)
    clear h
    go_enter Try.func58, Try.ntmps58
    go_wp2_with fail
    refine ret_pure (in_yes _ 1 64 HH.out _) ?_
    go_wp2_with fail
    refine ret_pure (rising_any A l c _ HI.out hl) ?_
    go_wp2_with fail
    go_ret
    exact Ret.bool HV.out
  · have HV := Lib.hid (rowsB_len h)
    have HH := Lib.hid (show ¬ ((1 : Int) ≤ (l.length : Int) ∧ (l.length : Int) ≤ 64) by omega)
    clear h
    go_enter Try.func58, Try.ntmps58
    go_wp2_with fail
    refine ret_pure (in_no _ 1 64 HH.out _) ?_
    go_wp2_with fail
    go_ret
    exact Ret.bool HV.out
set_option maxRecDepth 100000 in
set_option maxHeartbeats 1000000 in
theorem refRows_any (A : Option Addr) (l : List Int) (c : Nat) (w : World) (hI : IntsAt w A l) (hl : l.length ≤ 1152921504606846976) :
    Calls Try.prog 66 #[.slice A l.length c] w (RetB (.bool (rowsB l)) w) := by
  have HI := Lib.hid hI
  clear hI
  go_enter Try.func66, Try.ntmps66
  go_wp2_with fail
  go_loopw [3] (fun i wr => ∃ k : Nat, k ≤ l.length ∧ i = .int .i64 k ∧ (∀ j, j < k → RowK l j) ∧ Below w.heap.size w wr) (fun i _ => l.length - (intOf i).toNat)
  case atStart => exact ⟨0, Nat.zero_le _, rfl, fun j hj => absurd hj (by omega), Below.refl _ _⟩
  case round =>
    obtain ⟨k, hk, rfl, hpre, hbr⟩ := hrel
    have HP := Lib.hid hpre
    clear hpre
    by_cases hlt : k < l.length
    · obtain ⟨b, off, rfl, hbl, hcell⟩ := (HI.out.below hbr) k hlt
      have hk0 : (0 : Int) ≤ (k : Int) := by omega
      have hkl : (k : Int) < (l.length : Int) := by omega
      by_cases t0 : nth l k < 0
      · have HV := Lib.hid (risB_at hlt (fun h : RowK l k => by have := h.1; omega))
        have HV2 := Lib.hid (show false = rowsB l from rowsB_at hlt (fun h : RowK l k => by have := h.1; omega))
        go_wp2_with fail
        go_quiet (fail)
        go_wp2_with fail
        go_ret
        exact RetB.bool HV2.out (below_drewN hbr _)
      · by_cases t1 : 63 < nth l k
        · have HV2 := Lib.hid (show false = rowsB l from rowsB_at hlt (fun h : RowK l k => by have := h.2.1; omega))
          have d0 : decide (nth l k < 0) = false := decide_eq_false t0
          go_wp2_with fail
          go_quiet (fail)
          go_wp2_with fail
          go_ret
          exact RetB.bool HV2.out (below_drewN hbr _)
        · have d0 : decide (nth l k < 0) = false := decide_eq_false t0
          have d1 : decide (63 < nth l k) = false := decide_eq_false t1
          rcases k with _ | j
          · have HV := Lib.hid (show RowK l 0 from ⟨by omega, by omega, fun h => absurd h (by omega)⟩)
            rw [Nat.add_zero] at hcell
            go_wp2_with fail
            go_quiet (fail)
            go_wp2_with fail
            go_roundw
            case rel => exact ⟨0 + 1, by omega, by go_num, first_k HV.out, below_drewN hbr _⟩
            case measure => simp [intOf]; omega
          · obtain ⟨b', off', e, _, hcell'⟩ := (HI.out.below hbr) j (by omega)
            injection e with e
            injection e with e1 e2
            subst e1; subst e2
            have hj0 : (0 : Int) ≤ (j : Int) := by omega
            have hjl : (j : Int) < (l.length : Int) := by omega
            by_cases t3 : nth l (j + 1) ≤ nth l j
            · have HV2 := Lib.hid (show false = rowsB l from rowsB_at hlt (fun h : RowK l (j + 1) => by have := h.2.2 (by omega); rw [show j + 1 - 1 = j by omega] at this; omega))
              go_wp2_with fail
              go_quiet (fail)
              go_wp2_with fail
              go_ret
              exact RetB.bool HV2.out (below_drewN hbr _)
            · have HV := Lib.hid (show RowK l (j + 1) from ⟨by omega, by omega, fun _ => by rw [show j + 1 - 1 = j by omega]; omega⟩)
              go_wp2_with fail
              go_quiet (fail)
              go_wp2_with fail
              go_roundw
              case rel =>
                refine ⟨(j + 1) + 1, by omega, by go_num, fun i hi => ?_, below_drewN hbr _⟩
                by_cases e : i = j + 1
                · subst e; exact HV.out
                · exact HP.out i (by omega)
              case measure => simp [intOf]; omega
    · have HV := Lib.hid (rowsB_all (fun j (hj : j < l.length) => HP.out j (by omega)))
      by_cases h1 : 1 ≤ l.length
      · have HV2 := Lib.hid (show decide ((l.length : Int) ≤ 64) = rowsB l by rw [← HV.out]; simp [h1]; omega)
        go_wp2_with fail
        go_ret
        exact RetB.bool HV2.out hbr
      · have HV2 := Lib.hid (show false = rowsB l by rw [← HV.out]; simp; omega)
        go_wp2_with fail
        go_ret
        exact RetB.bool HV2.out hbr

/-! ### The count that is blurred -/
def NzCell (w : World) (x : Nat) (T A B : Int) : Prop := w.heap[x]? = some (.cells #[.int .i64 T, .int .i64 A, .int .i64 B] 47 (0, 0))
theorem NzCell.c0 {w : World} {x : Nat} {T A B : Int} (h : NzCell w x T A B) : w.cell? ⟨x, 0, none⟩ = some (.int .i64 T) := by rw [cell_of_row w x 0 _ _ (0, 0) h]; rfl
theorem NzCell.c1 {w : World} {x : Nat} {T A B : Int} (h : NzCell w x T A B) : w.cell? ⟨x, 1, none⟩ = some (.int .i64 A) := by rw [cell_of_row w x 1 _ _ (0, 0) h]; rfl
theorem NzCell.c2 {w : World} {x : Nat} {T A B : Int} (h : NzCell w x T A B) : w.cell? ⟨x, 2, none⟩ = some (.int .i64 B) := by rw [cell_of_row w x 2 _ _ (0, 0) h]; rfl
theorem NzCell.lt {w : World} {x : Nat} {T A B : Int} (h : NzCell w x T A B) : x < w.heap.size := blk_lt h
theorem NzCell.below {w w' : World} {x : Nat} {T A B : Int} (h : NzCell w x T A B) (hb : Below w.heap.size w w') : NzCell w' x T A B := (hb.block x (blk_lt h)).trans h
theorem NzCell.alloc {w : World} {x : Nat} {T A B : Int} (h : NzCell w x T A B) (o : Obj) : NzCell (w.alloc o) x T A B := h.below (below_alloc w o)
theorem NzCell.new {w : World} {i : Nat} (T A B : Int) (h : i = w.heap.size) : NzCell (w.alloc (.cells #[.int .i64 T, .int .i64 A, .int .i64 B] 47)) i T A B := by subst h; exact heap_alloc_new w _

def clC (T : Int) (L : List Spd) (d : Int) : Int := clampW T (cntD d L)
theorem clC_eq (T : Int) (L : List Spd) (d : Int) : clampW T (cntD d L) = clC T L d := rfl
theorem clC_range {T : Int} (L : List Spd) (d : Int) (h : 0 ≤ T) : 0 ≤ clC T L d ∧ clC T L d ≤ T := by unfold clC clampW; omega
set_option maxRecDepth 100000 in
set_option maxHeartbeats 400000 in
theorem clamped_any (T A B : Int) (C : Option Addr) (L : List Spd) (c : Nat) (d : Int) (w : World) (hL : ElAt elC w C L) (hl : L.length ≤ 100000) :
    Calls Try.prog 61 #[nz T A B, .slice C L.length c, .int .i64 d] w (RetB (.int .i64 (clC T L d)) w) := by
  have HL := Lib.hid hL
  have HV := Lib.hid (clC_eq T L d)
  clear hL
  go_enter Try.func61, Try.ntmps61
  go_wp2_with fail
  refine gen_world fun w1 hw1 => ?_
  have hb : Below w.heap.size w w1 := by rw [hw1]; exact below_alloc _ _
  have hX : NzCell w1 w.heap.size T A B := by rw [hw1]; exact NzCell.new _ _ _ rfl
  have x0 := hX.c0
  have x1 := hX.c1
  have x2 := hX.c2
  have hlt := hX.lt
  have hs := hb.size
  clear hw1 hX
  refine wp_region_grew (by kernel_rfl) (by kernel_rfl) ?_
  repeat (go_big_quiet_step ((first
    | (go_at_call 28; exact grew_of (count_any C L c d _ ((HL.out.below hb).below (grewW.below _ _)) hl))
    | (go_at_call 76; exact grew_of (clamp_any T A B _ _)))))
  refine wpQuiet_nil ?_
  intro w2 hb2
  go_wp2_with fail
  go_ret
  exact RetB.int HV.out (hb.trans (hb2.mono hs))
set_option maxRecDepth 100000 in
set_option maxHeartbeats 400000 in
theorem odd39_any (x : Nat) (T A B u : Int) (w : World) (hx : NzCell w x T A B) (hG : Good T A B) (ht : 1 ≤ totalW T A B ∧ totalW T A B ≤ 36028797018963968) :
    Calls Try.prog 56 #[.int .i64 u, .pointer (some ⟨x, 0, none⟩)] w (RetB (.bool (!inI u 0 (totalW T A B - 1))) w) := by
  have x0 := hx.c0
  have x1 := hx.c1
  have x2 := hx.c2
  obtain ⟨g1, g2, g3, g4, g5⟩ := hG
  obtain ⟨t1, t2⟩ := ht
  clear hx
  go_enter Try.func56, Try.ntmps56
  go_wp2_with fail
  refine ret_below (total_ok T A B _ g1 g2 g3 g4 g5) fun w1 hb1 => ?_
  generalize totalW T A B = tt at *
  go_wp2_with fail
  refine ret_pure (in_any u 0 (tt - 1) _) ?_
  go_wp2_with fail
  go_ret
  exact RetB.bool rfl hb1
end Go.Proofs.Ytmnkgfimdlhhiaa
namespace Go.Proofs.Ytmnkgfimdlhhiaa
open Go.RowKit

def wN (T A B c z : Nat) : Nat := A ^ ((c - z) + (z - c)) * B ^ (T - ((c - z) + (z - c))) * (if z = 0 ∨ z = T then B else B - A)

theorem pow_le4 (a k : Nat) (ha : a ≤ 4) : a ^ k ≤ 4 ^ k := Nat.pow_le_pow_left ha k
theorem pow24 (k : Nat) (hk : k ≤ 24) : 4 ^ k ≤ 281474976710656 := by
  have := Nat.pow_le_pow_right (n := 4) (by omega) hk
  simpa using this
theorem wrap_nat (x : Nat) (h : x ≤ 9223372036854775807) : wrap64 (x : Int) = (x : Int) := IntWalk.wrap64_in _ (by omega)
theorem powW_nat (a k : Nat) (ha : a ≤ 4) (hk : k ≤ 24) : powW (a : Int) k = ((a ^ k : Nat) : Int) := by
  induction k with
  | zero => rfl
  | succ k ih =>
    have h1 := pow_le4 a (k + 1) ha
    have h2 := pow24 (k + 1) hk
    rw [powW, ih (by omega), ← Int.natCast_mul, ← Nat.pow_succ]
    exact wrap_nat _ (by rw [← Nat.add_one]; omega)
theorem prod_le (T A B d : Nat) (hA : A ≤ 4) (hB : B ≤ 4) (hT : T ≤ 24) (hd : d ≤ T) : A ^ d * B ^ (T - d) ≤ 281474976710656 := by
  have h1 := Nat.mul_le_mul (pow_le4 A d hA) (pow_le4 B (T - d) hB)
  rw [← Nat.pow_add, show d + (T - d) = T by omega] at h1
  exact Nat.le_trans h1 (pow24 T hT)
theorem weightW_core (x A B : Nat) (T z : Nat) (hx : x ≤ 281474976710656) (hAB : A < B) (hB : B ≤ 4) :
    (if (z : Int) = 0 ∨ (z : Int) = T then wrap64 (wrap64 (x : Int) * B) else wrap64 (wrap64 (x : Int) * (B - A))) = ((x * (if z = 0 ∨ z = T then B else B - A) : Nat) : Int) := by
  rw [wrap_nat x (by omega)]
  by_cases h : z = 0 ∨ z = T
  · have h2 : x * B ≤ x * 4 := Nat.mul_le_mul_left x hB
    rw [if_pos h, if_pos (by omega), ← Int.natCast_mul, wrap_nat _ (by omega)]
  · have h2 : x * (B - A) ≤ x * 4 := Nat.mul_le_mul_left x (by omega)
    rw [if_neg h, if_neg (by omega), show ((B : Int) - (A : Int)) = ((B - A : Nat) : Int) by omega, ← Int.natCast_mul, wrap_nat _ (by omega)]
theorem weightW_nat (T A B c z : Nat) (hT : T ≤ 24) (hAB : A < B) (hB : B ≤ 4) (hc : c ≤ T) (hz : z ≤ T) : weightW T A B c z = ((wN T A B c z : Nat) : Int) := by
  have hd : max ((c : Int) - z) ((z : Int) - c) = (((c - z) + (z - c) : Nat) : Int) := by omega
  have hle : (c - z) + (z - c) ≤ T := by omega
  have hp := prod_le T A B _ (by omega) hB hT hle
  have e1 : ((T : Int) - (((c - z) + (z - c) : Nat) : Int)).toNat = T - ((c - z) + (z - c)) := by omega
  unfold weightW wN
  rw [hd, e1, Int.toNat_natCast, powW_nat A _ (by omega) (by omega), powW_nat B _ hB (by omega), ← Int.natCast_mul]
  exact weightW_core _ A B T z hp hAB hB

/-- All that the statements ask of the weights, at one noise and count. -/
def okAt (T A B c : Nat) : Bool :=
  ((List.range (T + 1)).all fun z => decide (1 ≤ wN T A B c z ∧ wN T A B c z ≤ 1125899906842624)) &&
  decide (((List.range (T + 1)).map (wN T A B c)).sum = (A + B) * B ^ T) &&
  (decide (c = T) || (List.range (T + 1)).all fun z => decide (if z ≤ c then wN T A B c z * A = wN T A B (c + 1) z * B else wN T A B c z * B = wN T A B (c + 1) z * A)) &&
  (List.range T).all fun z => decide (z = 0 ∨ z + 1 = T ∨ (if z < c then wN T A B c z < wN T A B c (z + 1) else wN T A B c (z + 1) < wN T A B c z))
def okAll : Bool := (List.range 24).all fun T => (List.range 5).all fun B => (List.range B).all fun A => A == 0 || (List.range (T + 2)).all fun c => okAt (T + 1) A B c
theorem okAll_true : okAll = true := by decide +kernel
theorem okAt_true (T A B c : Nat) (h1 : 1 ≤ T) (hT : T ≤ 24) (hA : 1 ≤ A) (hAB : A < B) (hB : B ≤ 4) (hc : c ≤ T) : okAt T A B c = true := by
  have h := okAll_true
  unfold okAll at h
  simp only [List.all_eq_true, List.mem_range] at h
  have h2 := h (T - 1) (by omega) B (by omega) A hAB
  rw [Bool.or_eq_true] at h2
  rcases h2 with h2 | h2
  · simp at h2; omega
  · simp only [List.all_eq_true, List.mem_range] at h2
    have h3 := h2 c (by omega)
    rw [show T - 1 + 1 = T by omega] at h3
    exact h3
end Go.Proofs.Ytmnkgfimdlhhiaa
namespace Go.Proofs.Ytmnkgfimdlhhiaa
open Go.RowKit

/-- The place at which a number lies, when the weights are laid one behind the other. -/
def drawZ : List Int → Int → Nat
  | [], _ => 0
  | w :: l, u => if u < w then 0 else 1 + drawZ l (u - w)
def preS (l : List Int) (k : Nat) : Int := (l.take k).sum
theorem preS_succ (l : List Int) (k : Nat) (h : k < l.length) : preS l (k + 1) = preS l k + nth l k := by
  unfold preS; rw [take_snoc_getD l k h, List.sum_append]; simp
theorem preS_zero (l : List Int) : preS l 0 = 0 := rfl
theorem drawZ_step (l : List Int) (u : Int) (k : Nat) (h : k < l.length) (hn : ¬ u < preS l (k + 1)) :
    drawZ (l.drop k) (u - preS l k) = 1 + drawZ (l.drop (k + 1)) (u - preS l (k + 1)) := by
  rw [List.drop_eq_getElem_cons h, drawZ, ← nth_eq h, if_neg (by have := preS_succ l k h; omega), preS_succ l k h]
  congr 2; omega
theorem drawZ_stop (l : List Int) (u : Int) (k : Nat) (h : k < l.length) (hn : u < preS l (k + 1)) :
    drawZ (l.drop k) (u - preS l k) = 0 := by
  rw [List.drop_eq_getElem_cons h, drawZ, ← nth_eq h, if_pos (by have := preS_succ l k h; omega)]
/-- What holds of the weights of valid noise. -/
structure WOK (T A B c : Int) : Prop where
  pos : ∀ k, k < (weightsL T A B c (T + 1).toNat).length → 1 ≤ nth (weightsL T A B c (T + 1).toNat) k ∧ nth (weightsL T A B c (T + 1).toNat) k ≤ 1125899906842624
  sum : preS (weightsL T A B c (T + 1).toNat) (T + 1).toNat = totalW T A B
  tot : 1 ≤ totalW T A B ∧ totalW T A B ≤ 36028797018963968
theorem nth_weightsL (T A B c : Int) (n k : Nat) (h : k < n) : nth (weightsL T A B c n) k = weightW T A B c k := by
  rw [nth_eq (by rw [weightsL_len]; exact h)]; simp [weightsL]
theorem sum_cast (l : List Nat) : (l.map (fun x : Nat => (x : Int))).sum = ((l.sum : Nat) : Int) := by
  induction l with
  | nil => rfl
  | cons x l ih => simp [ih]
theorem sum_bound (l : List Nat) (M : Nat) (h : ∀ x ∈ l, x ≤ M) : l.sum ≤ l.length * M := by
  induction l with
  | nil => simp
  | cons x l ih =>
    have h1 := h x (by simp)
    have h2 := ih (fun y hy => h y (by simp [hy]))
    simp only [List.sum_cons, List.length_cons, Nat.succ_mul]; omega
theorem Good.nats {T A B : Int} (h : Good T A B) : ∃ t a b : Nat, T = t ∧ A = a ∧ B = b ∧ 1 ≤ t ∧ t ≤ 24 ∧ 1 ≤ a ∧ a < b ∧ b ≤ 4 := by
  obtain ⟨h1, h2, h3, h4, h5⟩ := h
  exact ⟨T.toNat, A.toNat, B.toNat, by omega, by omega, by omega, by omega, by omega, by omega, by omega, by omega⟩
theorem okAt_pos {T A B c z : Nat} (h : okAt T A B c = true) (hz : z ≤ T) : 1 ≤ wN T A B c z ∧ wN T A B c z ≤ 1125899906842624 := by
  unfold okAt at h
  simp only [Bool.and_eq_true, List.all_eq_true, List.mem_range, decide_eq_true_eq] at h
  exact h.1.1.1 z (by omega)
theorem okAt_sum {T A B c : Nat} (h : okAt T A B c = true) : ((List.range (T + 1)).map (wN T A B c)).sum = (A + B) * B ^ T := by
  unfold okAt at h
  simp only [Bool.and_eq_true, List.all_eq_true, List.mem_range, decide_eq_true_eq] at h
  exact h.1.1.2
theorem okAt_factor {T A B c z : Nat} (h : okAt T A B c = true) (hc : c < T) (hz : z ≤ T) :
    (z ≤ c → wN T A B c z * A = wN T A B (c + 1) z * B) ∧ (¬ z ≤ c → wN T A B c z * B = wN T A B (c + 1) z * A) := by
  unfold okAt at h
  simp only [Bool.and_eq_true, Bool.or_eq_true, List.all_eq_true, List.mem_range, decide_eq_true_eq] at h
  have h2 := h.1.2
  rcases h2 with h2 | h2
  · omega
  · have h3 := h2 z (by omega)
    by_cases hzc : z ≤ c
    · rw [if_pos hzc] at h3; exact ⟨fun _ => h3, fun q => absurd hzc q⟩
    · rw [if_neg hzc] at h3; exact ⟨fun q => absurd q hzc, fun _ => h3⟩
theorem okAt_near {T A B c z : Nat} (h : okAt T A B c = true) (hz : 1 ≤ z) (hz2 : z + 1 < T) :
    (z < c → wN T A B c z < wN T A B c (z + 1)) ∧ (¬ z < c → wN T A B c (z + 1) < wN T A B c z) := by
  unfold okAt at h
  simp only [Bool.and_eq_true, Bool.or_eq_true, List.all_eq_true, List.mem_range, decide_eq_true_eq] at h
  have h3 := h.2 z (by omega)
  rcases h3 with h3 | h3 | h3
  · omega
  · omega
  · by_cases hzc : z < c
    · rw [if_pos hzc] at h3; exact ⟨fun _ => h3, fun q => absurd hzc q⟩
    · rw [if_neg hzc] at h3; exact ⟨fun q => absurd q hzc, fun _ => h3⟩
theorem weightsL_nat (T A B c : Nat) (n : Nat) (hT : T ≤ 24) (hAB : A < B) (hB : B ≤ 4) (hc : c ≤ T) (hn : n ≤ T + 1) :
    weightsL T A B c n = ((List.range n).map (wN T A B c)).map (fun x : Nat => (x : Int)) := by
  unfold weightsL
  rw [List.map_map]
  refine List.map_congr_left fun z hz => ?_
  have := List.mem_range.1 hz
  exact weightW_nat T A B c z hT hAB hB hc (by omega)
theorem total_nat (T A B : Nat) (hT : T ≤ 24) (hAB : A < B) (hB : B ≤ 4) : totalW T A B = (((A + B) * B ^ T : Nat) : Int) := by
  have h1 := pow_le4 B T hB
  have h2 := pow24 T hT
  have h3 : (A + B) * B ^ T ≤ 8 * 281474976710656 := Nat.mul_le_mul (by omega) (by omega)
  unfold totalW
  rw [Int.toNat_natCast, powW_nat B T hB hT, ← Int.natCast_add, ← Int.natCast_mul]
  exact wrap_nat _ (by omega)
theorem WOK.of {T A B c : Int} (h : Good T A B) (hc : 0 ≤ c ∧ c ≤ T) : WOK T A B c := by
  obtain ⟨t, a, b, rfl, rfl, rfl, h1, h2, h3, h4, h5⟩ := h.nats
  obtain ⟨c, rfl⟩ := Int.eq_ofNat_of_zero_le hc.1
  have hct : c ≤ t := by omega
  have ok := okAt_true t a b c h1 h2 h3 h4 h5 hct
  have e : ((t : Int) + 1).toNat = t + 1 := by omega
  rw [show ((t : Int)) = ((t : Nat) : Int) from rfl] at *
  refine ⟨fun k hk => ?_, ?_, ?_⟩
  · rw [weightsL_len] at hk
    rw [nth_weightsL _ _ _ _ _ _ hk, weightW_nat t a b c k h2 h4 h5 hct (by omega)]
    have := okAt_pos ok (z := k) (by omega)
    omega
  · rw [e, preS, List.take_of_length_le (by rw [weightsL_len]; exact Nat.le_refl _), weightsL_nat t a b c (t + 1) h2 h4 h5 hct (Nat.le_refl _), sum_cast, okAt_sum ok, total_nat t a b h2 h4 h5]
  · rw [total_nat t a b h2 h4 h5, ← okAt_sum ok]
    have hb := sum_bound ((List.range (t + 1)).map (wN t a b c)) 1125899906842624 (by
      intro x hx
      obtain ⟨z, hz, rfl⟩ := List.mem_map.1 hx
      have := List.mem_range.1 hz
      exact (okAt_pos ok (by omega)).2)
    simp only [List.length_map, List.length_range] at hb
    have h25 : (t + 1) * 1125899906842624 ≤ 25 * 1125899906842624 := Nat.mul_le_mul_right _ (by omega)
    have hpos : 1 ≤ ((List.range (t + 1)).map (wN t a b c)).sum := by
      rw [List.range_succ, List.map_append, List.sum_append]
      have := (okAt_pos ok (z := t) (Nat.le_refl _)).1
      simp; omega
    omega
theorem preS_mono {l : List Int} (hp : ∀ k, k < l.length → 1 ≤ nth l k) : ∀ n k, k ≤ n → n ≤ l.length → preS l k + ((n - k : Nat) : Int) ≤ preS l n := by
  intro n k hk
  induction n with
  | zero => intro _; have : k = 0 := by omega
            subst this; simp
  | succ n ih =>
    intro hn
    rcases Nat.eq_or_lt_of_le hk with e | e
    · subst e; simp
    · have := ih (by omega) (by omega)
      have h2 := preS_succ l n (by omega)
      have h3 := hp n (by omega)
      omega

end Go.Proofs.Ytmnkgfimdlhhiaa
namespace Go.Proofs.Ytmnkgfimdlhhiaa
open Go.RowKit

def drawE (T A B c u : Int) : Int := if wErr T A B c = 0 then (if inB u 0 (totalW T A B - 1) then 0 else 2) else wErr T A B c
def drawV (T A B c u : Int) : Int := if wErr T A B c = 0 then (if inB u 0 (totalW T A B - 1) then (drawZ (wLst T A B c) u : Nat) else 0) else 0
theorem wErr_bad {T A B c : Int} (h : ¬ Good T A B) : wErr T A B c = 57 := by rw [wErr, nOK_f h]; rfl
theorem wErr_out {T A B c : Int} (h : Good T A B) (hc : ¬ (0 ≤ c ∧ c ≤ T)) : wErr T A B c = 2 := by rw [wErr, nOK_t h, ← inB_f hc]; rfl
theorem wErr_good {T A B c : Int} (h : Good T A B) (hc : 0 ≤ c ∧ c ≤ T) : wErr T A B c = 0 := by rw [wErr, nOK_t h, ← inB_t hc]; rfl
theorem wLst_good {T A B c : Int} (h : Good T A B) (hc : 0 ≤ c ∧ c ≤ T) : wLst T A B c = weightsL T A B c (T + 1).toNat := by rw [wLst, nOK_t h, ← inB_t hc]; rfl
theorem dv_bad {T A B c u : Int} (h : wErr T A B c ≠ 0) : drawV T A B c u = 0 ∧ drawE T A B c u = wErr T A B c := by
  simp only [drawV, drawE]; rw [if_neg h, if_neg h]; exact ⟨rfl, rfl⟩
theorem dv_out {T A B c u : Int} (h : wErr T A B c = 0) (hu : ¬ (0 ≤ u ∧ u ≤ totalW T A B - 1)) : drawV T A B c u = 0 ∧ drawE T A B c u = 2 := by
  simp only [drawV, drawE]; rw [if_pos h, if_pos h, ← inB_f hu]; exact ⟨rfl, rfl⟩
theorem dv_in {T A B c u : Int} (h : wErr T A B c = 0) (hu : 0 ≤ u ∧ u ≤ totalW T A B - 1) : drawV T A B c u = (drawZ (wLst T A B c) u : Nat) ∧ drawE T A B c u = 0 := by
  simp only [drawV, drawE]; rw [if_pos h, if_pos h, ← inB_t hu]; exact ⟨rfl, rfl⟩
theorem pair_eq {a b x y : Int} (h : x = a ∧ y = b) : Value.tuple #[.int .i64 a, .int .i64 b] = Value.tuple #[.int .i64 x, .int .i64 y] := by rw [h.1, h.2]

set_option maxHeartbeats 400000 in
theorem draw_bad (T A B c u : Int) (w : World) (h : wErr T A B c ≠ 0) :
    Calls Try.prog 60 #[nz T A B, .int .i64 c, .int .i64 u] w (RetB (.tuple #[.int .i64 (drawV T A B c u), .int .i64 (drawE T A B c u)]) w) := by
  have HD := Lib.hid (dv_bad (u := u) h)
  have hne : (wErr T A B c != 0) = true := by simp [h]
  clear h
  go_enter Try.func60, Try.ntmps60
  go_wp2_with fail
  refine (weights_any T A B c _).mono ?_
  rintro e w1 ⟨v, rfl, hb, o, rfl, hown⟩
  obtain ⟨hc1, hf1⟩ := bcell hb
  clear hown
  go_wp2
  go_ret2
  exact RetB.val (pair_eq HD.out) (((Below.refl _ _).alloc (Nat.le_refl _) _).trans (hb.mono (by simp)))

set_option maxHeartbeats 400000 in
theorem draw_out (T A B c u : Int) (w : World) (hG : Good T A B) (hc : 0 ≤ c ∧ c ≤ T) (hu : ¬ (0 ≤ u ∧ u ≤ totalW T A B - 1)) :
    Calls Try.prog 60 #[nz T A B, .int .i64 c, .int .i64 u] w (RetB (.tuple #[.int .i64 (drawV T A B c u), .int .i64 (drawE T A B c u)]) w) := by
  have HD := Lib.hid (dv_out (u := u) (wErr_good hG hc) hu)
  have HE := Lib.hid (wErr_good hG hc)
  have HI := Lib.hid (inB_f hu).symm
  have hW := WOK.of hG hc
  obtain ⟨ht1, ht2⟩ := hW.tot
  obtain ⟨g1, g2, g3, g4, g5⟩ := hG
  clear hW
  
  all_goals
    go_enter Try.func60, Try.ntmps60
    go_wp2_with fail
    refine (weights_any T A B c _).mono ?_
    rintro e w1 ⟨v, rfl, hb, o, rfl, hown⟩
    rw [HE.out]
    obtain ⟨hc1, hf1⟩ := bcell hb
    clear hown
    go_wp2_with (first | (go_at_call 57; refine (total_ok T A B _ g1 g2 g3 g4 g5).mono ?_; rintro e w2 ⟨rfl, hb2⟩; replace hb := hb.trans (hb2.mono hb.size); obtain ⟨hc1, hf1⟩ := bcell hb) | (go_at_call 49; refine (inB_any _ _ _ _).mono ?_; rintro e w2 ⟨rfl, rfl⟩; rw [HI.out]))
    go_ret2
    exact RetB.val (pair_eq HD.out) (((Below.refl _ _).alloc (Nat.le_refl _) _).trans (hb.mono (by simp)))

set_option maxHeartbeats 800000 in
theorem draw_in (T A B c u : Int) (w : World) (hG : Good T A B) (hc : 0 ≤ c ∧ c ≤ T) (hu : 0 ≤ u ∧ u ≤ totalW T A B - 1) :
    Calls Try.prog 60 #[nz T A B, .int .i64 c, .int .i64 u] w (RetB (.tuple #[.int .i64 (drawV T A B c u), .int .i64 (drawE T A B c u)]) w) := by
  have HD := Lib.hid (dv_in (u := u) (wErr_good hG hc) hu)
  have HE := Lib.hid (wErr_good hG hc)
  have HI := Lib.hid (inB_t hu).symm
  have HL := Lib.hid (wLst_good hG hc)
  have hW := WOK.of hG hc
  obtain ⟨ht1, ht2⟩ := hW.tot
  have HS := Lib.hid hW.sum
  have hp := hW.pos
  obtain ⟨g1, g2, g3, g4, g5⟩ := hG
  obtain ⟨hu1, hu2⟩ := hu
  have hln := weightsL_len T A B c (T + 1).toNat
  generalize hl : weightsL T A B c (T + 1).toNat = L at *
  have HN := Lib.hid hln
  have hn1 : L.length ≤ (T + 1).toNat := by omega
  have hn2 : (T + 1).toNat ≤ L.length := by omega
  clear hln hl hW
  have hmono := preS_mono (fun k hk => (hp k hk).1)
  go_enter Try.func60, Try.ntmps60
  go_wp2_with fail
  refine (weights_any T A B c _).mono ?_
  rintro e w1 ⟨v, rfl, hb, o, rfl, hown⟩
  rw [HE.out]
  rw [HL.out] at hown
  obtain ⟨A', cap, rfl, hI⟩ := IntsAt.of_own hown rfl
  obtain ⟨hc1, hf1⟩ := bcell hb
  clear hown
  go_wp2_with (first | (go_at_call 57; refine (total_ok T A B _ g1 g2 g3 g4 g5).mono ?_; rintro e w2 ⟨rfl, hb2⟩; replace hI := hI.below hb2; replace hb := hb.trans (hb2.mono hb.size); obtain ⟨hc1, hf1⟩ := bcell hb) | (go_at_call 49; refine (inB_any _ _ _ _).mono ?_; rintro e w2 ⟨rfl, rfl⟩; rw [HI.out]))
  go_loop [10, 30] (fun s i => ∃ k : Nat, k ≤ L.length ∧ i = .int .i64 k ∧ s = .int .i64 (preS L k) ∧ preS L k ≤ u ∧ drawZ L u = k + drawZ (L.drop k) (u - preS L k)) (fun _ i => L.length - (intOf i).toNat)
  case atStart => exact ⟨0, by omega, rfl, rfl, by rw [preS_zero]; omega, by simp [preS_zero]⟩
  case round =>
    obtain ⟨k, hk, rfl, rfl, hle, hd⟩ := hrel
    have HK := Lib.hid hd
    clear hd
    by_cases hlt : k < L.length
    · obtain ⟨b', off', rfl, hbl, hcell⟩ := hI k hlt
      have hsum := preS_succ L k hlt
      obtain ⟨hp1, hp2⟩ := hp k hlt
      have h0 := hmono k 0 (by omega) hk
      have hz0 : preS L 0 = 0 := rfl
      have h1 := hmono (T + 1).toNat k (by omega) hn2
      have hT : preS L (T + 1).toNat ≤ 36028797018963968 := by rw [HS.out]; exact ht2
      have hb0 : 0 ≤ preS L k := by omega
      have hb1 : preS L k ≤ 36028797018963968 := by omega
      have HP := Lib.hid hsum
      by_cases hstop : preS L k + nth L k ≤ u
      · have hz2 := drawZ_step L u k hlt (by omega)
        have HZ := Lib.hid hz2
        clear hz2 hsum h0 h1 hT hz0 hmono hI hp
        go_wp2
        go_round
        case rel => exact ⟨k + 1, by omega, by go_num, by rw [HP.out], by rw [HP.out]; omega, by rw [HK.out, HZ.out]; omega⟩
        case measure => simp [intOf]; omega
      · have hz2 := drawZ_stop L u k hlt (by omega)
        have HZ := Lib.hid hz2
        clear hz2 hsum h0 h1 hT hz0 hmono hI hp
        go_wp2
        go_ret2
        refine RetB.val (pair_eq ⟨?_, HD.out.2⟩) (((Below.refl _ _).alloc (Nat.le_refl _) _).trans (hb.mono (by simp)))
        rw [HD.out.1, HL.out, HK.out, HZ.out]; omega
    · have hTk : preS L (T + 1).toNat = totalW T A B := HS.out
      rw [show (T + 1).toNat = k by omega] at hTk
      omega

theorem draw_any (T A B c u : Int) (w : World) :
    Calls Try.prog 60 #[nz T A B, .int .i64 c, .int .i64 u] w (RetB (.tuple #[.int .i64 (drawV T A B c u), .int .i64 (drawE T A B c u)]) w) := by
  by_cases h : Good T A B
  · by_cases hc : 0 ≤ c ∧ c ≤ T
    · by_cases hu : 0 ≤ u ∧ u ≤ totalW T A B - 1
      · exact draw_in T A B c u w h hc hu
      · exact draw_out T A B c u w h hc hu
    · exact draw_bad T A B c u w (by rw [wErr_out h hc]; decide)
  · exact draw_bad T A B c u w (by rw [wErr_bad h]; decide)

set_option maxHeartbeats 400000 in
theorem rdraw_bad (T A B c u : Int) (w : World) (h : wErr T A B c ≠ 0) :
    Calls Try.prog 67 #[nz T A B, .int .i64 c, .int .i64 u] w (RetB (.tuple #[.int .i64 (drawV T A B c u), .int .i64 (drawE T A B c u)]) w) := by
  have HD := Lib.hid (dv_bad (u := u) h)
  have hne : (wErr T A B c != 0) = true := by simp [h]
  clear h
  go_enter Try.func67, Try.ntmps67
  go_wp2_with fail
  refine (rweights_any T A B c _).mono ?_
  rintro e w1 ⟨v, rfl, hb, o, rfl, hown⟩
  obtain ⟨hc1, hf1⟩ := bcell hb
  clear hown
  go_wp2
  go_ret2
  exact RetB.val (pair_eq HD.out) (((Below.refl _ _).alloc (Nat.le_refl _) _).trans (hb.mono (by simp)))

set_option maxHeartbeats 400000 in
theorem rdraw_out (T A B c u : Int) (w : World) (hG : Good T A B) (hc : 0 ≤ c ∧ c ≤ T) (hu : ¬ (0 ≤ u ∧ u ≤ totalW T A B - 1)) :
    Calls Try.prog 67 #[nz T A B, .int .i64 c, .int .i64 u] w (RetB (.tuple #[.int .i64 (drawV T A B c u), .int .i64 (drawE T A B c u)]) w) := by
  have HD := Lib.hid (dv_out (u := u) (wErr_good hG hc) hu)
  have HE := Lib.hid (wErr_good hG hc)
  have HI := Lib.hid (inB_f hu).symm
  have hW := WOK.of hG hc
  obtain ⟨ht1, ht2⟩ := hW.tot
  obtain ⟨g1, g2, g3, g4, g5⟩ := hG
  clear hW
  by_cases h0 : u < 0
  all_goals
    go_enter Try.func67, Try.ntmps67
    go_wp2_with fail
    refine (rweights_any T A B c _).mono ?_
    rintro e w1 ⟨v, rfl, hb, o, rfl, hown⟩
    rw [HE.out]
    obtain ⟨hc1, hf1⟩ := bcell hb
    clear hown
    go_wp2_with (first | (go_at_call 30; refine (rtotal_ok T A B _ g1 g2 g3 g4 g5).mono ?_; rintro e w2 ⟨rfl, hb2⟩; replace hb := hb.trans (hb2.mono hb.size); obtain ⟨hc1, hf1⟩ := bcell hb) | (go_at_call 49; refine (inB_any _ _ _ _).mono ?_; rintro e w2 ⟨rfl, rfl⟩; rw [HI.out]))
    go_ret2
    exact RetB.val (pair_eq HD.out) (((Below.refl _ _).alloc (Nat.le_refl _) _).trans (hb.mono (by simp)))

set_option maxHeartbeats 800000 in
theorem rdraw_in (T A B c u : Int) (w : World) (hG : Good T A B) (hc : 0 ≤ c ∧ c ≤ T) (hu : 0 ≤ u ∧ u ≤ totalW T A B - 1) :
    Calls Try.prog 67 #[nz T A B, .int .i64 c, .int .i64 u] w (RetB (.tuple #[.int .i64 (drawV T A B c u), .int .i64 (drawE T A B c u)]) w) := by
  have HD := Lib.hid (dv_in (u := u) (wErr_good hG hc) hu)
  have HE := Lib.hid (wErr_good hG hc)
  have HI := Lib.hid (inB_t hu).symm
  have HL := Lib.hid (wLst_good hG hc)
  have hW := WOK.of hG hc
  obtain ⟨ht1, ht2⟩ := hW.tot
  have HS := Lib.hid hW.sum
  have hp := hW.pos
  obtain ⟨g1, g2, g3, g4, g5⟩ := hG
  obtain ⟨hu1, hu2⟩ := hu
  have hln := weightsL_len T A B c (T + 1).toNat
  generalize hl : weightsL T A B c (T + 1).toNat = L at *
  have HN := Lib.hid hln
  have hn1 : L.length ≤ (T + 1).toNat := by omega
  have hn2 : (T + 1).toNat ≤ L.length := by omega
  clear hln hl hW
  have hmono := preS_mono (fun k hk => (hp k hk).1)
  go_enter Try.func67, Try.ntmps67
  go_wp2_with fail
  refine (rweights_any T A B c _).mono ?_
  rintro e w1 ⟨v, rfl, hb, o, rfl, hown⟩
  rw [HE.out]
  rw [HL.out] at hown
  obtain ⟨A', cap, rfl, hI⟩ := IntsAt.of_own hown rfl
  obtain ⟨hc1, hf1⟩ := bcell hb
  clear hown
  go_wp2_with (first | (go_at_call 30; refine (rtotal_ok T A B _ g1 g2 g3 g4 g5).mono ?_; rintro e w2 ⟨rfl, hb2⟩; replace hI := hI.below hb2; replace hb := hb.trans (hb2.mono hb.size); obtain ⟨hc1, hf1⟩ := bcell hb) | (go_at_call 49; refine (inB_any _ _ _ _).mono ?_; rintro e w2 ⟨rfl, rfl⟩; rw [HI.out]))
  go_loop [2, 10] (fun s i => ∃ k : Nat, k ≤ L.length ∧ i = .int .i64 k ∧ s = .int .i64 (u - preS L k) ∧ preS L k ≤ u ∧ drawZ L u = k + drawZ (L.drop k) (u - preS L k)) (fun _ i => L.length - (intOf i).toNat)
  case atStart => exact ⟨0, by omega, rfl, by simp [preS_zero], by rw [preS_zero]; omega, by simp [preS_zero]⟩
  case round =>
    obtain ⟨k, hk, rfl, rfl, hle, hd⟩ := hrel
    have HK := Lib.hid hd
    clear hd
    by_cases hlt : k < L.length
    · obtain ⟨b', off', rfl, hbl, hcell⟩ := hI k hlt
      have hsum := preS_succ L k hlt
      obtain ⟨hp1, hp2⟩ := hp k hlt
      have h0 := hmono k 0 (by omega) hk
      have hz0 : preS L 0 = 0 := rfl
      have hb0 : 0 ≤ preS L k := by omega
      have HP := Lib.hid hsum
      by_cases hstop : preS L k + nth L k ≤ u
      · have hz2 := drawZ_step L u k hlt (by omega)
        have HZ := Lib.hid hz2
        have hge : nth L k ≤ u - preS L k := by omega
        clear hz2 hsum h0 hz0 hmono hI hp
        go_wp2
        go_round
        case rel => exact ⟨k + 1, by omega, by go_num, by rw [HP.out]; exact congrArg _ (by omega), by rw [HP.out]; omega, by rw [HK.out, HZ.out]; omega⟩
        case measure => simp [intOf]; omega
      · have hz2 := drawZ_stop L u k hlt (by omega)
        have HZ := Lib.hid hz2
        have hge : u - preS L k < nth L k := by omega
        clear hz2 hsum h0 hz0 hmono hI hp
        go_wp2
        go_ret2
        refine RetB.val (pair_eq ⟨?_, HD.out.2⟩) (((Below.refl _ _).alloc (Nat.le_refl _) _).trans (hb.mono (by simp)))
        rw [HD.out.1, HL.out, HK.out, HZ.out]; omega
    · have hTk : preS L (T + 1).toNat = totalW T A B := HS.out
      rw [show (T + 1).toNat = k by omega] at hTk
      omega

theorem rdraw_any (T A B c u : Int) (w : World) :
    Calls Try.prog 67 #[nz T A B, .int .i64 c, .int .i64 u] w (RetB (.tuple #[.int .i64 (drawV T A B c u), .int .i64 (drawE T A B c u)]) w) := by
  by_cases h : Good T A B
  · by_cases hc : 0 ≤ c ∧ c ≤ T
    · by_cases hu : 0 ≤ u ∧ u ≤ totalW T A B - 1
      · exact rdraw_in T A B c u w h hc hu
      · exact rdraw_out T A B c u w h hc hu
    · exact rdraw_bad T A B c u w (by rw [wErr_out h hc]; decide)
  · exact rdraw_bad T A B c u w (by rw [wErr_bad h]; decide)
end Go.Proofs.Ytmnkgfimdlhhiaa
namespace Go.Proofs.Ytmnkgfimdlhhiaa
open Go.RowKit

/-! ### Lines of a table in memory -/
def linF (x : Spd) : List Value := [.int .i64 x.1, .int .i64 x.2]
def elL : El Spd := ⟨2, linF, fun _ => rfl, fun x u h => by
  simp only [linF, List.mem_cons, List.not_mem_nil, or_false] at h
  rcases h with rfl | rfl <;> rfl, by decide⟩
theorem info_line : (Try.prog.info? 74).map (fun i => (i.zero, i.size, i.bytes)) = some (some (.agg #[.int .i64 0, .int .i64 0]), 2, 16) := by kernel_rfl
theorem lin_cells {w : World} {A : Option Addr} {L : List Spd} (h : ElAt elL w A L) {k : Nat} (hk : k < L.length) :
    ∃ b off, A = some ⟨b, off, none⟩ ∧ b < w.heap.size ∧ w.cell? ⟨b, off + k * 2, none⟩ = some (.int .i64 (tS L k)) ∧ w.cell? ⟨b, off + k * 2 + 1, none⟩ = some (.int .i64 (cS L k)) := by
  obtain ⟨b, off, rfl, hlt, hc⟩ := h k _ (getD_some hk)
  exact ⟨b, off, rfl, hlt, hc 0 (by decide), hc 1 (by decide)⟩
theorem below_undrewE {B : Nat} {w w' : World} (h : Below B w.drew w') : Below B w w' := ⟨h.os, h.tape, h.output, h.size, h.block⟩
def TabCell (w : World) (x : Nat) (tm : Int) (v : Value) : Prop := w.heap[x]? = some (.cells #[.int .i64 tm, v] 52 (0, 0))
theorem TabCell.c0 {w : World} {x : Nat} {tm : Int} {v : Value} (h : TabCell w x tm v) : w.cell? ⟨x, 0, none⟩ = some (.int .i64 tm) := by rw [cell_of_row w x 0 _ _ (0, 0) h]; rfl
theorem TabCell.c1 {w : World} {x : Nat} {tm : Int} {v : Value} (h : TabCell w x tm v) : w.cell? ⟨x, 1, none⟩ = some v := by rw [cell_of_row w x 1 _ _ (0, 0) h]; rfl
theorem TabCell.lt {w : World} {x : Nat} {tm : Int} {v : Value} (h : TabCell w x tm v) : x < w.heap.size := blk_lt h
theorem TabCell.below {w w' : World} {x : Nat} {tm : Int} {v : Value} (h : TabCell w x tm v) (hb : Below w.heap.size w w') : TabCell w' x tm v := (hb.block x (blk_lt h)).trans h
theorem TabCell.new {w : World} {i : Nat} (tm : Int) (v : Value) (h : i = w.heap.size) : TabCell (w.alloc (.cells #[.int .i64 tm, v] 52)) i tm v := by subst h; exact heap_alloc_new w _
theorem lin_box (w : World) (t c : Int) : (w.alloc (.cells #[.int .i64 t, .int .i64 c] 74)).cell? ⟨w.heap.size, 0, none⟩ = some (.int .i64 t) ∧ (w.alloc (.cells #[.int .i64 t, .int .i64 c] 74)).cell? ⟨w.heap.size, 1, none⟩ = some (.int .i64 c) := by
  have h := heap_alloc_new w (.cells #[.int .i64 t, .int .i64 c] 74)
  constructor
  · rw [cell_of_row _ _ 0 _ _ (0, 0) h]; rfl
  · rw [cell_of_row _ _ 1 _ _ (0, 0) h]; rfl

/-! ### What is returned -/
def IntOwn (w : World) (base : Nat) (v : Value) (L : List Int) : Prop := w.ownsRow base 3 1 v L.length (L.map (Value.int .i64))
def ZOK (T : Int) (Ls : List Spd) : Prop := ∀ k, k < Ls.length → 0 ≤ cS Ls k ∧ cS Ls k ≤ T
instance (T : Int) (Ls : List Spd) : Decidable (ZOK T Ls) := by unfold ZOK; exact inferInstance
instance (T A B : Int) : Decidable (Good T A B) := by unfold Good; exact inferInstance
def wgE (T A B : Int) (Ls : List Spd) : Int := if Good T A B then (if ZOK T Ls then 0 else 2) else 57
def wg1 (T A B : Int) (L : List Spd) (x : Spd) : Int := weightW T A B (clC T L x.1) x.2
def wgK (T A B : Int) (L Ls : List Spd) (k : Nat) : List Int := (Ls.take k).map (wg1 T A B L)
def wgL (T A B : Int) (L Ls : List Spd) : List Int := if Good T A B ∧ ZOK T Ls then Ls.map (wg1 T A B L) else []
theorem wgK_len {T A B : Int} {L Ls : List Spd} {k : Nat} (h : k ≤ Ls.length) : (wgK T A B L Ls k).length = k := by simp [wgK]; omega
theorem wgK_succ {T A B : Int} {L Ls : List Spd} {k : Nat} (h : k < Ls.length) : wgK T A B L Ls (k + 1) = wgK T A B L Ls k ++ [weightW T A B (clC T L (tS Ls k)) (cS Ls k)] := by
  unfold wgK
  rw [List.take_succ_eq_append_getElem h, List.map_append]
  simp [wg1, tS, cS, List.getD_eq_getElem?_getD, h]
/-- The call returns the weights. -/
def WeighP (T A B : Int) (L Ls : List Spd) (w : World) (e : Ending) (w' : World) : Prop :=
  ∃ u, e = .returned (.tuple #[u, .int .i64 (wgE T A B Ls)]) ∧ IntOwn w' w.heap.size u (wgL T A B L Ls) ∧ Below w.heap.size w w'
theorem IntOwn.nil (w : World) (base : Nat) : IntOwn w base (.slice none 0 0) [] := ⟨rfl, .inl ⟨rfl, rfl⟩⟩
theorem WeighP.bad {T A B : Int} {L Ls : List Spd} {w w' : World} (h : ¬ Good T A B) (hb : Below w.heap.size w w') : WeighP T A B L Ls w (.returned (.tuple #[.slice none 0 0, .int .i64 57])) w' := by
  refine ⟨.slice none 0 0, ?_, ?_, hb⟩
  · unfold wgE; rw [if_neg h]
  · unfold wgL; rw [if_neg (fun H => h H.1)]; exact IntOwn.nil _ _
theorem WeighP.out {T A B : Int} {L Ls : List Spd} {w w' : World} (h : Good T A B) (h2 : ¬ ZOK T Ls) (hb : Below w.heap.size w w') : WeighP T A B L Ls w (.returned (.tuple #[.slice none 0 0, .int .i64 2])) w' := by
  refine ⟨.slice none 0 0, ?_, ?_, hb⟩
  · unfold wgE; rw [if_pos h, if_neg h2]
  · unfold wgL; rw [if_neg (fun H => h2 H.2)]; exact IntOwn.nil _ _
theorem WeighP.good {T A B : Int} {L Ls : List Spd} {w w' : World} {u : Value} {k : Nat} (h : Good T A B) (h2 : ZOK T Ls) (hk : k = Ls.length) (hb : Below w.heap.size w w') (ho : w'.ownsRow w.heap.size 3 1 u k ((wgK T A B L Ls k).map (Value.int .i64))) :
    WeighP T A B L Ls w (.returned (.tuple #[u, .int .i64 0])) w' := by
  subst hk
  refine ⟨u, ?_, ?_, hb⟩
  · unfold wgE; rw [if_pos h, if_pos h2]
  · unfold wgL; rw [if_pos ⟨h, h2⟩]
    unfold wgK at ho; rw [List.take_length] at ho
    unfold IntOwn; rw [List.length_map]; exact ho
/-- One of the weights, as it lies in memory. -/
theorem weight_at {T A B c z : Int} {w : World} {base n : Nat} {v : Value} (h : Good T A B) (hc : 0 ≤ c ∧ c ≤ T) (hz : 0 ≤ z ∧ z ≤ T) (ho : w.ownsRow base 3 1 v (wLst T A B c).length ((wLst T A B c).map (Value.int .i64))) (hn : n = (T + 1).toNat) :
    ∃ b off cap, v = .slice (some ⟨b, off, none⟩) n cap ∧ z < n ∧ w.cell? ⟨b, off + z.toNat, none⟩ = some (.int .i64 (weightW T A B c z)) := by
  rw [wLst_good h hc] at ho
  obtain ⟨A', cap, rfl, hI⟩ := IntsAt.of_own ho rfl
  rw [weightsL_len]
  obtain ⟨b, off, rfl, _, hcell⟩ := hI z.toNat (by rw [weightsL_len]; omega)
  refine ⟨b, off, cap, by rw [hn], by omega, ?_⟩
  rw [hcell, nth_weightsL _ _ _ _ _ _ (by omega)]
  rw [show ((z.toNat : Nat) : Int) = z by omega]

set_option maxRecDepth 100000 in
set_option maxHeartbeats 4000000 in
theorem weigh_any (T A B : Int) (C : Option Addr) (L : List Spd) (c : Nat) (tm : Int) (U : Option Addr) (Ls : List Spd) (cu : Nat) (w : World) (hL : ElAt elC w C L) (hl : L.length ≤ 100000) (hU : ElAt elL w U Ls) (hu : Ls.length ≤ 100000) :
    Calls Try.prog 27 #[nz T A B, .slice C L.length c, .agg #[.int .i64 tm, .slice U Ls.length cu]] w (WeighP T A B L Ls w) := by
  have HL := Lib.hid hL
  have HU := Lib.hid hU
  clear hL hU
  by_cases hG : Good T A B
  case neg =>
    have HG := Lib.hid hG
    have HCK := Lib.hid (checkN_bad hG)
    clear hG
    go_enter Try.func27, Try.ntmps27
    go_wp2_with fail
    refine (ncheck_any T A B _).mono ?_
    rintro e w1 ⟨rfl, hb⟩
    rw [HCK.out]
    have hbw : Below w.heap.size w w1 := ((below_alloc _ _).alloc (by simp) _).trans (hb.mono (by simp; omega))
    clear hb
    go_wp2_with fail
    go_ret2
    exact WeighP.bad HG.out hbw
  case pos =>
    have HG := Lib.hid hG
    have HCK := Lib.hid (checkN_ok hG)
    obtain ⟨g1, g2, g3, g4, g5⟩ := hG
    go_enter Try.func27, Try.ntmps27
    go_wp2_with fail
    refine (ncheck_any T A B _).mono ?_
    rintro e w1 ⟨rfl, hb⟩
    rw [HCK.out]
    have hbw : Below w.heap.size w w1 := ((below_alloc _ _).alloc (by simp) _).trans (hb.mono (by simp; omega))
    have hN : NzCell w1 w.heap.size T A B := ((NzCell.new _ _ _ rfl).alloc _).below hb
    have hX : TabCell w1 (w.heap.size + 1) tm (.slice U Ls.length cu) := (TabCell.new _ _ (by simp)).below hb
    have x1 := hX.c1
    have n0 := hN.c0
    have n1 := hN.c1
    have n2 := hN.c2
    have HX := Lib.hid hX
    have HN := Lib.hid hN
    have HL1 := Lib.hid (HL.out.below hbw)
    have HU1 := Lib.hid (HU.out.below hbw)
    clear hb hX hN HL HU
    go_wp2_with fail
    go_loopw [19, 8] (fun i o wr => ∃ k : Nat, k ≤ Ls.length ∧ i = .int .i64 k ∧ (∀ j, j < k → 0 ≤ cS Ls j ∧ cS Ls j ≤ T) ∧ wr.ownsRow w1.heap.size 3 1 o k ((wgK T A B L Ls k).map (Value.int .i64)) ∧ Below w1.heap.size w1 wr) (fun i _ _ => Ls.length - (intOf i).toNat)
    case atStart => exact ⟨0, Nat.zero_le _, rfl, fun j hj => absurd hj (by omega), World.ownsRow_nil _ _ _ _, Below.refl _ _⟩
    case round =>
      obtain ⟨k, hk, rfl, hpre, hown, hbr⟩ := hrel
      have HP := Lib.hid hpre
      have HOW := Lib.hid hown
      have hbs := hbr.size
      clear hpre hown n0 n1 n2 x1
      have hN := HN.out.below hbr
      have x1 := (HX.out.below hbr).c1
      have n0 := hN.c0
      have n1 := hN.c1
      have n2 := hN.c2
      have lN := hN.lt
      have lX := (HX.out.below hbr).lt
      have hlk : k ≤ Ls.length := hk
      clear hN
      by_cases hlt : k < Ls.length
      · obtain ⟨b, off, rfl, hbl, c0, c1⟩ := lin_cells (HU1.out.below hbr) hlt
        by_cases hz : 0 ≤ cS Ls k ∧ cS Ls k ≤ T
        · have HZ := Lib.hid hz
          obtain ⟨z1, z2⟩ := hz
          have HWS := Lib.hid (wgK_succ (T := T) (A := A) (B := B) (L := L) hlt)
          generalize tS Ls k = dd at *
          generalize hzz : cS Ls k = zz at *
          have HZZ := Lib.hid hzz
          clear hzz
          have HCR := Lib.hid (clC_range L dd (show 0 ≤ T by omega))
          go_wp2_with fail
          refine ret_pure (in_yes _ 0 T HZ.out _) ?_
          go_wp2_with fail
          refine gen_world fun W hW => ?_
          have hbW : Below wr.heap.size wr W := by rw [hW]; exact below_alloc _ _
          obtain ⟨e0, e1⟩ : W.cell? ⟨wr.heap.size, 0, none⟩ = some (.int .i64 dd) ∧ W.cell? ⟨wr.heap.size, 1, none⟩ = some (.int .i64 zz) := by rw [hW]; exact lin_box _ _ _
          have lW : wr.heap.size < W.heap.size := by rw [hW]; simp
          have hNW := HN.out.below (hbr.trans (hbW.mono hbs))
          have hlN : w.heap.size < W.heap.size := hNW.lt
          have m0 := hNW.c0
          have m1 := hNW.c1
          have m2 := hNW.c2
          have HLW := Lib.hid (HL1.out.below (hbr.trans (hbW.mono hbs)))
          have HOWW := Lib.hid (own_below HOW.out hbW)
          clear hW hNW n0 n1 n2 x1 c0 c1
          go_region_held3 (fun w' => w'.cell? ⟨w.heap.size, 0, none⟩ = some (.int .i64 T) ∧ w'.cell? ⟨w.heap.size, 1, none⟩ = some (.int .i64 A) ∧ w'.cell? ⟨w.heap.size, 2, none⟩ = some (.int .i64 B) ∧ w'.cell? ⟨wr.heap.size, 0, none⟩ = some (.int .i64 dd)) (first | go_keep)
            (first
              | (go_at_call 61; refine ret_below (clamped_any T A B C L c dd _ (HLW.out.drewN 1) hl) ?_; intro w3 hb3; have q0 := (hb3.cell (p := ⟨w.heap.size, 0, none⟩) hlN).trans m0; have q1 := (hb3.cell (p := ⟨w.heap.size, 1, none⟩) hlN).trans m1; have q2 := (hb3.cell (p := ⟨w.heap.size, 2, none⟩) hlN).trans m2; have q3 := (hb3.cell (p := ⟨wr.heap.size, 0, none⟩) lW).trans e0; have s3 := hb3.size)
              | (go_at_call 62; refine (weights_any_good T A B _ _ HG.out HCR.out.1 HCR.out.2).mono ?_; rintro e w4 ⟨v, rfl, hb4, o4, rfl, hown4⟩; have hb34 := hb3.trans (hb4.mono s3); have p0 := (hb34.cell (p := ⟨w.heap.size, 0, none⟩) hlN).trans m0; have p1 := (hb34.cell (p := ⟨w.heap.size, 1, none⟩) hlN).trans m1; have p2 := (hb34.cell (p := ⟨w.heap.size, 2, none⟩) hlN).trans m2; have p3 := (hb34.cell (p := ⟨wr.heap.size, 0, none⟩) lW).trans e0))
          have hb5 : Below W.heap.size W w4 := below_undrewE hb34
          have p4 := (hb5.cell (p := ⟨wr.heap.size, 1, none⟩) lW).trans e1
          obtain ⟨b4, of4, cap4, rfl, hz4, hc4⟩ := weight_at HG.out HCR.out HZ.out hown4 rfl
          have HOW5 := Lib.hid (own_below HOWW.out hb5)
          have s5 := hb5.size
          clear hown4 q0 q1 q2 q3 s3 hb3 hb4 hb34 m0 m1 m2 e0 e1
          go_wp2_with (at_builtin; refine app_one rfl (.tmp 39) (.tmp 45) 27 rfl (base := w1.heap.size) Try.underlying27 info_int rfl rfl HOW5.out rfl rfl (by simp only [maxLen]; omega) (by omega) (by omega) ?_; intro v6 w6 hown6 hg6 hb6)
          go_roundw
          case rel =>
            refine ⟨k + 1, by omega, by go_num, fun j hj => ?_, ?_, ((hbr.trans (hbW.mono hbs)).trans (hb5.mono (by omega))).trans hb6⟩
            · by_cases e : j = k
              · subst e; rw [HZZ.out]; exact HZ.out
              · exact HP.out j (by omega)
            · rw [HWS.out]; simpa using hown6
          case measure => simp [intOf]; omega
        · have HZ := Lib.hid (show ¬ ZOK T Ls from fun H => hz (H k hlt))
          have HZ2 := Lib.hid hz
          clear hz
          go_wp2_with fail
          refine ret_pure (in_no _ 0 T HZ2.out _) ?_
          go_wp2_with fail
          go_ret2
          exact WeighP.out HG.out HZ.out (hbw.trans ((hbr.mono hbw.size).alloc (by omega) _))
      · have HZ := Lib.hid (show ZOK T Ls from fun j hj => HP.out j (by omega))
        have HK := Lib.hid (show k = Ls.length by omega)
        go_wp2_with fail
        go_ret2
        exact WeighP.good HG.out HZ.out HK.out (hbw.trans (hbr.mono hbw.size)) (ownsRow_mono HOW.out hbw.size)

set_option maxRecDepth 100000 in
set_option maxHeartbeats 4000000 in
theorem refWeigh_any (T A B : Int) (C : Option Addr) (L : List Spd) (c : Nat) (tm : Int) (U : Option Addr) (Ls : List Spd) (cu : Nat) (w : World) (hL : ElAt elC w C L) (hl : L.length ≤ 100000) (hU : ElAt elL w U Ls) (hu : Ls.length ≤ 100000) :
    Calls Try.prog 36 #[nz T A B, .slice C L.length c, .agg #[.int .i64 tm, .slice U Ls.length cu]] w (WeighP T A B L Ls w) := by
  have HL := Lib.hid hL
  have HU := Lib.hid hU
  clear hL hU
  by_cases hG : Good T A B
  case neg =>
    have HG := Lib.hid hG
    have HCK := Lib.hid (checkN_bad hG)
    clear hG
    go_enter Try.func36, Try.ntmps36
    go_wp2_with fail
    refine (rcheck_any T A B _).mono ?_
    rintro e w1 ⟨rfl, hb⟩
    rw [HCK.out]
    have hbw : Below w.heap.size w w1 := ((below_alloc _ _).alloc (by simp) _).trans (hb.mono (by simp; omega))
    clear hb
    go_wp2_with fail
    go_ret2
    exact WeighP.bad HG.out hbw
  case pos =>
    have HG := Lib.hid hG
    have HCK := Lib.hid (checkN_ok hG)
    obtain ⟨g1, g2, g3, g4, g5⟩ := hG
    go_enter Try.func36, Try.ntmps36
    go_wp2_with fail
    refine (rcheck_any T A B _).mono ?_
    rintro e w1 ⟨rfl, hb⟩
    rw [HCK.out]
    have hbw : Below w.heap.size w w1 := ((below_alloc _ _).alloc (by simp) _).trans (hb.mono (by simp; omega))
    have hN : NzCell w1 w.heap.size T A B := ((NzCell.new _ _ _ rfl).alloc _).below hb
    have hX : TabCell w1 (w.heap.size + 1) tm (.slice U Ls.length cu) := (TabCell.new _ _ (by simp)).below hb
    have x1 := hX.c1
    have n0 := hN.c0
    have n1 := hN.c1
    have n2 := hN.c2
    have HX := Lib.hid hX
    have HN := Lib.hid hN
    have HL1 := Lib.hid (HL.out.below hbw)
    have HU1 := Lib.hid (HU.out.below hbw)
    clear hb hX hN HL HU
    go_wp2_with fail
    go_loopw [9, 8] (fun i o wr => ∃ k : Nat, k ≤ Ls.length ∧ i = .int .i64 k ∧ (∀ j, j < k → 0 ≤ cS Ls j ∧ cS Ls j ≤ T) ∧ wr.ownsRow w1.heap.size 3 1 o k ((wgK T A B L Ls k).map (Value.int .i64)) ∧ Below w1.heap.size w1 wr) (fun i _ _ => Ls.length - (intOf i).toNat)
    case atStart => exact ⟨0, Nat.zero_le _, rfl, fun j hj => absurd hj (by omega), World.ownsRow_nil _ _ _ _, Below.refl _ _⟩
    case round =>
      obtain ⟨k, hk, rfl, hpre, hown, hbr⟩ := hrel
      have HP := Lib.hid hpre
      have HOW := Lib.hid hown
      have hbs := hbr.size
      clear hpre hown n0 n1 n2 x1
      have hN := HN.out.below hbr
      have x1 := (HX.out.below hbr).c1
      have n0 := hN.c0
      have n1 := hN.c1
      have n2 := hN.c2
      have lN := hN.lt
      have lX := (HX.out.below hbr).lt
      have hlk : k ≤ Ls.length := hk
      clear hN
      by_cases hlt : k < Ls.length
      · obtain ⟨b, off, rfl, hbl, c0, c1⟩ := lin_cells (HU1.out.below hbr) hlt
        by_cases hz : 0 ≤ cS Ls k ∧ cS Ls k ≤ T
        · have HZ := Lib.hid hz
          obtain ⟨z1, z2⟩ := hz
          have HWS := Lib.hid (wgK_succ (T := T) (A := A) (B := B) (L := L) hlt)
          generalize tS Ls k = dd at *
          generalize hzz : cS Ls k = zz at *
          have HZZ := Lib.hid hzz
          clear hzz
          have HCR := Lib.hid (clC_range L dd (show 0 ≤ T by omega))
          have HRC := Lib.hid (show clC T L dd = rclampW T (cntD dd L) from rclamp_eq (by omega))
          have hk0 : (0 : Int) ≤ (k : Int) := by omega
          have hkl : (k : Int) < (Ls.length : Int) := by omega
          go_wp2_with fail
          have hlN : w.heap.size < wr.heap.size := lN
          have lW : w.heap.size + 1 < wr.heap.size := lX
          go_region_held3 (fun w' => w'.cell? ⟨w.heap.size, 0, none⟩ = some (.int .i64 T) ∧ w'.cell? ⟨w.heap.size, 1, none⟩ = some (.int .i64 A) ∧ w'.cell? ⟨w.heap.size, 2, none⟩ = some (.int .i64 B) ∧ w'.cell? ⟨w.heap.size + 1, 1, none⟩ = some (.slice (some ⟨b, off, none⟩) Ls.length cu) ∧ w'.cell? ⟨b, off + k * 2, none⟩ = some (.int .i64 dd)) (first | go_keep)
            (first
              | (go_at_call 34; refine ret_below (refCount_any C L c dd _ ((HL1.out.below hbr).drewN 1) hl) ?_; intro w3 hb3; have q0 := (hb3.cell (p := ⟨w.heap.size, 0, none⟩) hlN).trans n0; have q1 := (hb3.cell (p := ⟨w.heap.size, 1, none⟩) hlN).trans n1; have q2 := (hb3.cell (p := ⟨w.heap.size, 2, none⟩) hlN).trans n2; have q3 := (hb3.cell (p := ⟨w.heap.size + 1, 1, none⟩) lW).trans x1; have q4 := (hb3.cell (p := ⟨b, off + k * 2, none⟩) hbl).trans c0; have s3 := hb3.size)
              | (go_at_call 68; refine ret_below (rclamp_any T A B (cntD dd L) _) ?_; intro w4 hb4; rw [← HRC.out]; have hb34 := hb3.trans (hb4.mono s3); have p0 := (hb34.cell (p := ⟨w.heap.size, 0, none⟩) hlN).trans n0; have p1 := (hb34.cell (p := ⟨w.heap.size, 1, none⟩) hlN).trans n1; have p2 := (hb34.cell (p := ⟨w.heap.size, 2, none⟩) hlN).trans n2; have p3 := (hb34.cell (p := ⟨w.heap.size + 1, 1, none⟩) lW).trans x1; have p4 := (hb34.cell (p := ⟨b, off + k * 2, none⟩) hbl).trans c0; have s4 := hb34.size)
              | (go_at_call 69; refine (rweights_any_good T A B _ _ HG.out HCR.out.1 HCR.out.2).mono ?_; rintro e w5 ⟨v, rfl, hb5, o4, rfl, hown4⟩; have hb35 := hb34.trans (hb5.mono s4); have r0 := (hb35.cell (p := ⟨w.heap.size, 0, none⟩) hlN).trans n0; have r1 := (hb35.cell (p := ⟨w.heap.size, 1, none⟩) hlN).trans n1; have r2 := (hb35.cell (p := ⟨w.heap.size, 2, none⟩) hlN).trans n2; have r3 := (hb35.cell (p := ⟨w.heap.size + 1, 1, none⟩) lW).trans x1; have r4 := (hb35.cell (p := ⟨b, off + k * 2, none⟩) hbl).trans c0))
          have hb6 : Below wr.heap.size wr w5 := below_undrewE hb35
          obtain ⟨b4, of4, cap4, rfl, hz4, hc4⟩ := weight_at HG.out HCR.out HZ.out hown4 rfl
          have HOW5 := Lib.hid (own_below HOW.out hb6)
          have s5 := hb6.size
          clear hown4 q0 q1 q2 q3 q4 p0 p1 p2 p3 p4 s3 s4 hb3 hb4 hb34 hb35 n0 n1 n2 x1 c0 c1
          go_wp2_with (at_builtin; refine app_one rfl (.tmp 52) (.tmp 57) 27 rfl (base := w1.heap.size) Try.underlying27 info_int rfl rfl HOW5.out rfl rfl (by simp only [maxLen]; omega) (by omega) (by omega) ?_; intro v6 w6 hown6 hg6 hb6')
          go_roundw
          case rel =>
            refine ⟨k + 1, by omega, by go_num, fun j hj => ?_, ?_, (hbr.trans (hb6.mono hbs)).trans hb6'⟩
            · by_cases e : j = k
              · subst e; rw [HZZ.out]; exact HZ.out
              · exact HP.out j (by omega)
            · rw [HWS.out]; simpa using hown6
          case measure => simp [intOf]; omega
        · have HZ := Lib.hid (show ¬ ZOK T Ls from fun H => hz (H k hlt))
          have HZ2 := Lib.hid hz
          clear hz
          generalize hzz : cS Ls k = zz at *
          have HZZ := Lib.hid hzz
          clear hzz
          have hk0 : (0 : Int) ≤ (k : Int) := by omega
          have hkl : (k : Int) < (Ls.length : Int) := by omega
          by_cases t0 : zz < 0
          · go_wp2_with fail
            go_ret2
            exact WeighP.out HG.out HZ.out (hbw.trans (hbr.mono hbw.size))
          · have t1 : T < zz := by have := HZ2.out; omega
            go_wp2_with fail
            go_ret2
            exact WeighP.out HG.out HZ.out (hbw.trans (hbr.mono hbw.size))
      · have HZ := Lib.hid (show ZOK T Ls from fun j hj => HP.out j (by omega))
        have HK := Lib.hid (show k = Ls.length by omega)
        go_wp2_with fail
        go_ret2
        exact WeighP.good HG.out HZ.out HK.out (hbw.trans (hbr.mono hbw.size)) (ownsRow_mono HOW.out hbw.size)
end Go.Proofs.Ytmnkgfimdlhhiaa
