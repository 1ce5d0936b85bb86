/-
  Shares: a dealer of shares without values.
-/
import Derived.Test.YtkjpnhhkebbmdaaDoorShL
namespace Go.Proofs.YtkjpnhhkebbmdaaDoor
open Go.RowKit

/-- append of one share onto a row of the own. -/
theorem app_hv {ops : Array Oper} {rest : List Oper} {o : Oper} {a : Act} {Q : Exit → Act → World → Prop} (hgd : o.guard = none) (s x : Operand)
    (ho : o.op = .call { callee := .builtin .append, args := #[s, x], argTypes := #[37, 37] })
    {base : Nat} {w : World} {v : Value} {H : List HV} {g : Nat} (y : HV) (hs : a.eval s = v) (hown : HvOwn w base v H)
    (hx : a.eval x = .slice (some ⟨g, 0, none⟩) 1 1) (hg : w.heap[g]? = some (.cells #[.int .i64 y.1, y.2] 47 (0, 0))) (hy : isSl y.2 = true) (hl : H.length ≤ 1048576) (hbase : base ≤ w.heap.size)
    (h : ∀ v' w', HvOwn w' base v' (H ++ [y]) → w.grownBy w' v.ownBlock → Below base w w' → (v'.ownBlock = v.ownBlock ∨ v'.ownBlock = some w.heap.size) → wpList Tryd.prog ops Q rest (a.put o.dst v') w') :
    wpList Tryd.prog ops Q (o :: rest) a w := by
  obtain ⟨i0, hi, hz0, hz1, hz2⟩ := info_parts info_share
  refine wpList_append_own_at w hgd s x 37 ho base 47 i0 _ 2 32 Tryd.underlying37 hi hz0 hz1 hz2 rfl (by omega) v H.length (flatH H) hs hown ⟨g, 0, none⟩ 1 1 (flatH [y]) hx (flatH_len [y]) (fun j u hu => ?_) (flatH_one [y] (fun k hk => ?_)) (by unfold maxLen; omega) (by omega) hbase ?_
  · have hj : j < 2 := by
      rcases Nat.lt_or_ge j 2 with h1 | h1
      · exact h1
      · rw [List.getElem?_eq_none (by rw [flatH_len]; simp; omega)] at hu; cases hu
    have : j = 0 ∨ j = 1 := by omega
    rcases this with rfl | rfl
    · rw [show (⟨g, 0, none⟩ : Addr).add 0 = ⟨g, 0, none⟩ from rfl, cell_of_row w g 0 _ _ (0, 0) hg, ← hu]; rfl
    · rw [show (⟨g, 0, none⟩ : Addr).add 1 = ⟨g, 1, none⟩ from rfl, cell_of_row w g 1 _ _ (0, 0) hg, ← hu]; rfl
  · have : k = 0 := by simp at hk; omega
    subst this; exact hy
  · intro v' w' h2 h3 _ h5
    refine h v' w' ?_ h3 ((Below.refl _ _).grown h3 hbase (fun k hk => (World.ownsRow.lt hown k hk).1)) h5
    unfold HvOwn; rw [List.length_append, flatH_append]; exact h2

def DlrAt (w : World) (d base : Nat) (p n h : Int) (T : List ShN) : Prop :=
  d < base ∧ base ≤ w.heap.size ∧ ∃ v H, w.heap[d]? = some (.cells #[.int .i64 p, .int .i64 n, .int .i64 h, v] 76 (0, 0)) ∧ Rows2 w base v H T
def emptyT (k : Nat) : List ShN := (List.range k).map fun m => (m + 1, [])
theorem emptyT_len (k : Nat) : (emptyT k).length = k := by simp [emptyT]
theorem emptyT_succ (k : Nat) : emptyT (k + 1) = emptyT k ++ [(k + 1, [])] := by simp [emptyT, List.range_succ]
theorem hvAt_append {H K : List HV} {k : Nat} (h : k < H.length) : hvAt (H ++ K) k = hvAt H k := by simp [hvAt, List.getD_eq_getElem?_getD, List.getElem?_append_left h]
theorem hvAt_last {H : List HV} {y : HV} : hvAt (H ++ [y]) H.length = y := by simp [hvAt, List.getD_eq_getElem?_getD]
theorem hN_append {T K : List ShN} {k : Nat} (h : k < T.length) : hN (T ++ K) k = hN T k ∧ vN (T ++ K) k = vN T k := by simp [hN, vN, List.getD_eq_getElem?_getD, List.getElem?_append_left h]
theorem hN_last {T : List ShN} {y : ShN} : hN (T ++ [y]) T.length = y.1 ∧ vN (T ++ [y]) T.length = y.2 := by simp [hN, vN, List.getD_eq_getElem?_getD]
/-- One share without values more. -/
theorem Rows2.more {w w' : World} {base : Nat} {v v' : Value} {H : List HV} {T : List ShN} (h : Rows2 w base v H T) (x : Nat) (xi : Int) (hx : xi = (x : Int)) (hown : HvOwn w' base v' (H ++ [(xi, .slice none 0 0)])) (hg : w.grownBy w' v.ownBlock)
    (hv : v'.ownBlock = v.ownBlock ∨ v'.ownBlock = some w.heap.size) : Rows2 w' base v' (H ++ [(xi, .slice none 0 0)]) (T ++ [(x, [])]) := by
  subst hx
  have hl := h.len
  have hcase : ∀ k, k < (T ++ [(x, [])]).length → k < T.length ∨ k = T.length := fun k hk => by simp at hk; omega
  refine ⟨hown, by simp [hl], fun k hk => ?_, fun k hk => ?_, fun i j hi hj hij b e1 e2 => ?_, fun i hi b e1 e2 => ?_⟩
  · rcases hcase k hk with hk | rfl
    · rw [hvAt_append (by omega), (hN_append hk).1]; exact h.hold k hk
    · rw [← hl, hvAt_last, hl, hN_last.1]
  · rcases hcase k hk with hk | rfl
    · rw [hvAt_append (by omega), (hN_append hk).2]
      refine (h.row k hk).kept hg ?_
      rcases he : (hvAt H k).2.ownBlock with _ | b
      · exact .inl rfl
      · exact .inr (fun e => h.no k hk b he e.symm)
    · rw [← hl, hvAt_last, hl, hN_last.2]; exact World.ownsRow_nil _ _ _ _
  · rcases hcase i hi with hi | rfl
    · rcases hcase j hj with hj | rfl
      · rw [hvAt_append (by omega)] at e1 e2; exact h.ne i j hi hj hij b e1 e2
      · rw [← hl, hvAt_last] at e2; cases e2
    · rw [← hl, hvAt_last] at e1; cases e1
  · rcases hcase i hi with hi | rfl
    · rw [hvAt_append (by omega)] at e1
      rcases hv with e | e
      · exact h.no i hi b e1 (e ▸ e2)
      · have := (World.ownsRow.lt (h.row i hi) b e1).2
        rw [e] at e2; injection e2 with e2; omega
    · rw [← hl, hvAt_last] at e1; cases e1
theorem HvOwn.sl {w : World} {base : Nat} {v : Value} {H : List HV} (h : HvOwn w base v H) : ∃ A c, v = .slice A H.length c := by
  rcases h.2 with ⟨rfl, h0⟩ | ⟨g, cap, cur, rfl, -⟩
  · exact ⟨none, 0, by rw [h0]⟩
  · exact ⟨_, cap, rfl⟩
theorem HvOwn.slx {w : World} {base : Nat} {v : Value} {H : List HV} {y : HV} (h : HvOwn w base v (H ++ [y])) : ∃ A c, v = .slice A (H.length + 1) c := by
  obtain ⟨A, c, e⟩ := h.sl
  exact ⟨A, c, by rw [e]; simp⟩
theorem Rows2.other {w : World} {base : Nat} {v : Value} {H : List HV} {T : List ShN} (h : Rows2 w base v H T) (q : Addr) (u : Value) (hq : q.block < base) : Rows2 (w.setCell q u) base v H T :=
  ⟨own_other h.out q u (fun b e => by have := (World.ownsRow.lt h.out b e).1; omega), h.len, h.hold, fun k hk => own_other (h.row k hk) q u (fun b e => by have := (World.ownsRow.lt (h.row k hk) b e).1; omega), h.ne, h.no⟩
theorem dlr_box {w : World} {d : Nat} {p n h : Int} {v : Value} (hd : w.heap[d]? = some (.cells #[.int .i64 p, .int .i64 n, .int .i64 h, v] 76 (0, 0))) :
    w.cell? ⟨d, 0, none⟩ = some (.int .i64 p) ∧ w.cell? ⟨d, 3, none⟩ = some v ∧ ∀ j, w.frozen? ⟨d, j, none⟩ = false := by
  refine ⟨?_, ?_, fun j => by simp [World.frozen?, hd]⟩
  · rw [cell_of_row w d 0 _ _ (0, 0) hd]; rfl
  · rw [cell_of_row w d 3 _ _ (0, 0) hd]; rfl
theorem dlr_set {w : World} {d : Nat} {p n h : Int} {v : Value} (hd : w.heap[d]? = some (.cells #[.int .i64 p, .int .i64 n, .int .i64 h, v] 76 (0, 0))) (u : Value) :
    (w.setCell ⟨d, 3, none⟩ u).heap[d]? = some (.cells #[.int .i64 p, .int .i64 n, .int .i64 h, u] 76 (0, 0)) := by
  simp [World.setCell, Array.getElem?_modify, hd]

set_option maxRecDepth 100000 in
set_option maxHeartbeats 4000000 in
theorem newDealer_any (p n h : Nat) (w : World) (hh : h ≤ 1000) :
    Calls Tryd.prog 45 #[planV p n h] w (fun e w' => ∃ d base, e = .returned (.pointer (some ⟨d, 0, none⟩)) ∧ w.heap.size ≤ d ∧ DlrAt w' d base p n h (emptyT h) ∧ Below w.heap.size w w') := by
  go_enter Tryd.func45, Tryd.ntmps45
  go_wp2_with fail
  refine gen_world fun w1 hw1 => ?_
  have hpl : PlanCell w1 w.heap.size p n h := by rw [hw1]; exact (PlanCell.new _ _ _ rfl).alloc _
  have hd1 : w1.heap[w.heap.size + 1]? = some (.cells #[.int .i64 (p : Int), .int .i64 (n : Int), .int .i64 (h : Int), .slice none 0 0] 76 (0, 0)) := by
    rw [hw1]
    have := heap_alloc_new (w.alloc (.cells #[.int .i64 (p : Int), .int .i64 (n : Int), .int .i64 (h : Int)] 24)) (.cells #[.int .i64 (p : Int), .int .i64 (n : Int), .int .i64 (h : Int), .slice none 0 0] 76)
    rw [size_alloc] at this; exact this
  have hb1 : Below w.heap.size w w1 := by rw [hw1]; exact below_trans (below_alloc _ _) (below_alloc _ _)
  have hs1 : w1.heap.size = w.heap.size + 2 := by rw [hw1]; simp
  have p2 := hpl.c2
  have HD1 := Lib.hid hd1
  have HS1 := Lib.hid hs1
  have hs1' : w.heap.size + 2 ≤ w1.heap.size := by omega
  clear hw1 hd1 hs1
  go_wp2_with fail
  go_loopw [10] (fun i wr => ∃ k : Nat, k ≤ h ∧ i = .int .i64 k ∧ DlrAt wr (w.heap.size + 1) (w.heap.size + 2) p n h (emptyT k) ∧ Below w.heap.size w wr) (fun i _ => h - (intOf i).toNat)
  case atStart =>
    refine ⟨0, Nat.zero_le _, rfl, ⟨by omega, hs1', .slice none 0 0, [], HD1.out, ⟨HvOwn.nil _ _, rfl, fun k hk => absurd hk (by simp [emptyT]), fun k hk => absurd hk (by simp [emptyT]), fun i j hi => absurd hi (by simp [emptyT]), fun i hi => absurd hi (by simp [emptyT])⟩⟩, hb1⟩
  case round =>
    obtain ⟨k, hk, rfl, ⟨hd, hbs, v, H, hbox, hR⟩, hb⟩ := hrel
    obtain ⟨A, c, rfl, -⟩ := hR.read
    by_cases hlt : k < h
    · obtain ⟨-, b3, bf⟩ := dlr_box hbox
      have f3 := bf 3
      have HR := Lib.hid hR
      have HBX := Lib.hid hbox
      have hlH : H.length ≤ 1000 := by rw [hR.len, emptyT_len]; omega
      have hld := blk_lt hbox
      clear bf hbox hR p2
      have HB4 := Lib.hid (fun (w4 : World) (o : Obj) (hb4 : Below (w.heap.size + 2) (wr.alloc o) w4) => (hb4.block (w.heap.size + 1) (by omega)).trans ((heap_alloc_old wr o hld).trans HBX.out))
      go_wp2_with (at_builtin; refine app_hv rfl (.tmp 17) (.tmp 21) rfl (base := w.heap.size + 2) (H := H) (v := .slice A (emptyT k).length c) ((k : Int) + 1, .slice none 0 0) rfl (HR.out.out.below (below_alloc _ _)) rfl (heap_alloc_new _ _) rfl (by omega) (by simp; omega) ?_; intro v4 w4 hown4 hg4 hb4 hv4; obtain ⟨A4, c4, rfl⟩ := hown4.slx; have HV4 := Lib.hid hv4; clear hv4; have hx4 := HB4.out w4 _ hb4; have g3 := (dlr_box hx4).2.1; have f4 := (dlr_box hx4).2.2 3; have HX4 := Lib.hid hx4; clear hx4)
      have hR4 := ((HR.out.below (below_alloc _ _)).more (k + 1) _ (by omega) hown4 hg4 HV4.out).other ⟨w.heap.size + 1, 3, none⟩ (.slice A4 (H.length + 1) c4) (by simp)
      have hz4 := hb4.size
      have HN4 := Lib.hid (And.intro hR4 (And.intro (dlr_set HX4.out (.slice A4 (H.length + 1) c4)) (((hb.trans ((below_alloc wr _).mono (by omega))).trans (hb4.mono (by omega))).setCell (p := ⟨w.heap.size + 1, 3, none⟩) (by simp) (.slice A4 (H.length + 1) c4))))
      clear hR4 hown4 hg4
      go_roundw
      case rel => exact ⟨k + 1, by omega, by go_num, ⟨by omega, by simp [World.setCell] at hz4 ⊢; omega, _, _, HN4.out.2.1, by rw [emptyT_succ]; exact HN4.out.1⟩, HN4.out.2.2⟩
      case measure => simp [intOf]; omega
    · obtain rfl : k = h := by omega
      have HX := Lib.hid (show DlrAt wr (w.heap.size + 1) (w.heap.size + 2) p n k (emptyT k) from ⟨hd, hbs, _, H, hbox, hR⟩)
      clear hbox hR p2
      go_wp2_with fail
      go_ret
      exact ⟨_, _, rfl, by omega, HX.out, hb⟩
end Go.Proofs.YtkjpnhhkebbmdaaDoor
