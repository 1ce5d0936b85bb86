/-
  Shares: copies.
-/
import Derived.Test.YtkjpnhhkebbmdaaDoorShS
namespace Go.Proofs.YtkjpnhhkebbmdaaDoor
open Go.RowKit

abbrev valsI (L : List Int) : List Value := L.map (Value.int .i64)
theorem valsI_one (L : List Int) : ∀ u ∈ valsI L, u.oneCell' = true := by
  intro u hu
  obtain ⟨x, -, rfl⟩ := List.mem_map.1 hu; rfl
theorem IntsAt.news {w : World} {a : Addr} {L : List Int} (h : IntsAt w (some a) L) (hs : L.length = 0 ∨ a.spot = none) : ∀ j u, (valsI L)[j]? = some u → w.cell? (a.add j) = some u := fun j u hu => by
  have hj : j < L.length := by
    rcases Nat.lt_or_ge j L.length with h1 | h1
    · exact h1
    · rw [List.getElem?_eq_none (by simp [valsI]; omega)] at hu; cases hu
  obtain ⟨b, off, hA, hb, hc⟩ := h j hj
  injection hA with hA
  subst hA
  have e : (⟨b, off, none⟩ : Addr).add j = ⟨b, off + j, none⟩ := by
    unfold Addr.add; split
    · rename_i h; subst h; rfl
    · rfl
  rw [e, hc, ← hu]
  simp [valsI, hj, nth_eq hj]
theorem own_ints {w : World} {base : Nat} {v : Value} {L : List Int} {n : Nat} (h : w.ownsRow base 3 1 v n (valsI L)) (hn : n = L.length) :
    ∃ A c, v = .slice A L.length c ∧ IntsAt w A L ∧ IOK A c L.length ∧ ∀ b off, A = some ⟨b, off, none⟩ → base ≤ b ∧ b < w.heap.size := by
  subst hn
  have hlt := World.ownsRow.lt h
  rcases h.2 with ⟨rfl, h0⟩ | ⟨g, cap, cur, rfl, hg, hh, hnc, hcm, hcs, htk⟩
  · have : L = [] := List.eq_nil_of_length_eq_zero h0
    subst this
    exact ⟨none, 0, rfl, IntsAt.nil _ _, IOK.none0, fun b off e => by cases e⟩
  · refine ⟨some ⟨g, 0, none⟩, cap, rfl, fun k hk => ⟨g, 0, rfl, (hlt g rfl).2, ?_⟩, ⟨hnc, hcm, (fun e => by cases e), .inr (fun a e => by injection e with e; subst e; rfl)⟩, fun b off e => by injection e with e; injection e with e1; subst e1; exact hlt g rfl⟩
    have := World.ownsRow.cellAt h (j := k) (by omega)
    rw [Nat.zero_add, this, List.getElem?_map, nth_eq hk, List.getElem?_eq_getElem hk]
    rfl
/-- append of a slice of numbers onto nil, in a region that draws. -/
theorem step_app_ints {ops : Array Oper} {o : Oper} {a : Act} {K : Act → World → Prop} {Q : Exit → Act → World → Prop} {E : Prop} (W : World) (hgd : o.guard = none) (s x : Operand)
    (ho : o.op = .call { callee := .builtin .append, args := #[s, x], argTypes := #[22, 22] })
    (L : List Int) (B : Option Addr) (c : Nat) (hs : a.eval s = .slice none 0 0) (hx : a.eval x = .slice B L.length c) (hI : IntsAt W B L) (hok : IOK B c L.length) (hl : L.length ≤ 4294967296)
    (h : ∀ A' c' w', w'.ownsRow W.heap.size 3 1 (.slice A' L.length c') L.length (valsI L) → Below W.heap.size W w' → K (a.put o.dst (.slice A' L.length c')) w') :
    if Region.wanted o (yielded ops a.tmps) = true then Oper.wp Tryd.prog o a W K Q else E := by
  have hw : Region.wanted o (yielded ops a.tmps) = true := by simp [Region.wanted, hgd]
  rw [if_pos hw]
  obtain ⟨i0, hi, hz0, hz1, hz2⟩ := info_parts info_int
  rcases B with _ | ad
  · have hc0 := hok.nil rfl
    subst hc0
    have hL0 : L.length = 0 := by have := hok.len; omega
    have hL : L = [] := List.eq_nil_of_length_eq_zero hL0
    subst hL
    have hrun := run_append_owned_none (P := Tryd.prog) (w := W) W.heap.size 22 o.type 3 i0 1 Tryd.underlying22 hi (.slice none 0 0) 0 [] (World.ownsRow_nil _ _ _ _)
    unfold Oper.wp
    simp [execOp, ho, resolve, invoke, builtin, hs, hx, hrun, Result.andThen]
    exact h none 0 W (World.ownsRow_nil _ _ _ _) (Below.refl _ _)
  · have hsp : L.length = 0 ∨ ad.spot = none := hok.spot.elim .inl (fun g => .inr (g ad rfl))
    obtain ⟨v', w', hr, h2, h3, h4, h5⟩ := run_append_own_at (P := Tryd.prog) W W.heap.size 22 o.type 3 i0 _ 1 8 Tryd.underlying22 hi hz0 hz1 hz2 rfl (by omega) (.slice none 0 0) 0 [] (World.ownsRow_nil _ _ _ _) ad L.length c (valsI L) (by simp [valsI]) (hI.news hsp) (valsI_one L) (by unfold maxLen; omega) (by omega) (Nat.le_refl _)
    rw [Nat.zero_add, List.nil_append] at h2
    have hB : Below W.heap.size W w' := ⟨h3.os, h3.tape, h3.output, h3.size, fun k hk => h3.block k hk (by simp [Value.ownBlock])⟩
    obtain ⟨A', c', rfl, -⟩ := own_ints h2 rfl
    unfold Oper.wp execOp
    simp only [ho, resolve, invoke, builtin, Sem.run_bind, Sem.run_pure, Result.andThen_ok, List.map_toArray, List.map_cons, List.map_nil, hs, hx, hr]
    exact h A' c' w' h2 hB

/-! ### Rows of shares of the own, of any numbers -/
structure RowsI (w : World) (base : Nat) (v : Value) (H : List HV) (S : List Shr) : Prop where
  out : HvOwn w base v H
  len : H.length = S.length
  hold : ∀ k, k < S.length → (hvAt H k).1 = hS S k
  row : ∀ k, k < S.length → w.ownsRow base 3 1 (hvAt H k).2 (vS S k).length (valsI (vS S k))
  ne : ∀ i j, i < S.length → j < S.length → i ≠ j → ∀ b, (hvAt H i).2.ownBlock = some b → (hvAt H j).2.ownBlock = some b → False
  no : ∀ i, i < S.length → ∀ b, (hvAt H i).2.ownBlock = some b → v.ownBlock = some b → False
theorem RowsI.below {w w' : World} {base : Nat} {v : Value} {H : List HV} {S : List Shr} (h : RowsI w base v H S) (hb : Below w.heap.size w w') : RowsI w' base v H S :=
  ⟨h.out.below hb, h.len, h.hold, fun k hk => own_below (h.row k hk) hb, h.ne, h.no⟩
theorem RowsI.read {w : World} {base : Nat} {v : Value} {H : List HV} {S : List Shr} (h : RowsI w base v H S) : ∃ A c, v = .slice A S.length c ∧ ShP (fun b => base ≤ b) w A c S := by
  rcases Nat.eq_zero_or_pos S.length with h0 | h0
  · have : S = [] := List.eq_nil_of_length_eq_zero h0
    subst this
    have hH : H = [] := List.eq_nil_of_length_eq_zero h.len
    have ho := h.out
    subst hH
    rcases ho.2 with ⟨rfl, -⟩ | ⟨g, cap, cur, rfl, hg, hh, hnc, hcm, hcs, htk⟩
    · exact ⟨none, 0, rfl, ShP.nil _ _⟩
    · exact ⟨_, cap, rfl, fun k hk => absurd hk (by simp), ⟨Nat.zero_le _, hcm, (fun e => by cases e), .inl rfl⟩⟩
  · obtain ⟨g, c, rfl, hg, hbg, hlc, hcm, hcell, -⟩ := h.out.form (by rw [h.len]; exact h0)
    refine ⟨some ⟨g, 0, none⟩, c, by rw [h.len], fun k hk => ?_, ⟨by rw [← h.len]; exact hlc, hcm, (fun e => by cases e), .inr (fun a e => by injection e with e; subst e; rfl)⟩⟩
    obtain ⟨c1, c2⟩ := hcell k (by rw [h.len]; exact hk)
    obtain ⟨B, c', hv, hN, hS', hb⟩ := own_ints (h.row k hk) rfl
    refine ⟨g, 0, B, c', rfl, hg, hbg, ?_, ?_, ?_⟩
    · rw [Nat.zero_add, c1, h.hold k hk]
    · rw [Nat.zero_add, c2, hv]
    · exact ⟨hN, hS', fun b off e => .inr (hb b off e).1⟩
theorem hS_append {S K : List Shr} {k : Nat} (h : k < S.length) : hS (S ++ K) k = hS S k ∧ vS (S ++ K) k = vS S k := by simp [hS, vS, List.getD_eq_getElem?_getD, List.getElem?_append_left h]
theorem hS_last {S : List Shr} {y : Shr} : hS (S ++ [y]) S.length = y.1 ∧ vS (S ++ [y]) S.length = y.2 := by simp [hS, vS, List.getD_eq_getElem?_getD]
/-- One share more, its values a row made for it. -/
theorem RowsI.more {w w1 w' : World} {base : Nat} {v v' u : Value} {H : List HV} {S : List Shr} (h : RowsI w base v H S) (hb1 : Below w.heap.size w w1) (x : Int) (L : List Int) (hu : w1.ownsRow w.heap.size 3 1 u L.length (valsI L)) (hbs : base ≤ w.heap.size)
    (hown : HvOwn w' base v' (H ++ [(x, u)])) (hg : w1.grownBy w' v.ownBlock) (hv : v'.ownBlock = v.ownBlock ∨ ∀ b, v'.ownBlock = some b → w1.heap.size ≤ b) : RowsI w' base v' (H ++ [(x, u)]) (S ++ [(x, L)]) := by
  have hl := h.len
  have h1 := h.below hb1
  have hcase : ∀ k, k < (S ++ [(x, L)]).length → k < S.length ∨ k = S.length := fun k hk => by simp at hk; omega
  have hub : ∀ b, u.ownBlock = some b → w.heap.size ≤ b ∧ b < w1.heap.size := fun b e => World.ownsRow.lt hu b e
  refine ⟨hown, by simp [hl], fun k hk => ?_, fun k hk => ?_, fun i j hi hj hij b e1 e2 => ?_, fun i hi b e1 e2 => ?_⟩
  · rcases hcase k hk with hk | rfl
    · rw [hvAt_append (by omega), (hS_append hk).1]; exact h.hold k hk
    · rw [← hl, hvAt_last, hl, hS_last.1]
  · rcases hcase k hk with hk | rfl
    · rw [hvAt_append (by omega), (hS_append hk).2]
      refine World.ownsRow.kept (h1.row k hk) hg ?_
      rcases he : (hvAt H k).2.ownBlock with _ | b
      · exact .inl rfl
      · exact .inr (fun e => h.no k hk b he e.symm)
    · rw [← hl, hvAt_last, hl, hS_last.2]
      refine ownsRow_mono (World.ownsRow.kept hu hg ?_) hbs
      rcases he : u.ownBlock with _ | b
      · exact .inl rfl
      · exact .inr (fun e => by have := (World.ownsRow.lt h.out b e.symm).2; have := hub b he; omega)
  · rcases hcase i hi with hi | rfl
    · rcases hcase j hj with hj | rfl
      · rw [hvAt_append (by omega)] at e1 e2; exact h.ne i j hi hj hij b e1 e2
      · rw [hvAt_append (by omega)] at e1
        rw [← hl, hvAt_last] at e2
        have := (World.ownsRow.lt (h.row i hi) b e1).2; have := hub b e2; omega
    · rcases hcase j hj with hj | rfl
      · rw [hvAt_append (by omega)] at e2
        rw [← hl, hvAt_last] at e1
        have := (World.ownsRow.lt (h.row j hj) b e2).2; have := hub b e1; omega
      · exact hij rfl
  · rcases hcase i hi with hi | rfl
    · rw [hvAt_append (by omega)] at e1
      rcases hv with e | e
      · exact h.no i hi b e1 (e ▸ e2)
      · have := (World.ownsRow.lt (h1.row i hi) b e1).2
        have := e b e2; omega
    · rw [← hl, hvAt_last] at e1
      have h3 := hub b e1
      rcases hv with e | e
      · have := (World.ownsRow.lt h.out b (e ▸ e2)).2; omega
      · have := e b e2; omega
/-- append of one share onto a row of the own, in a region that draws. -/
theorem step_app_hv {ops : Array Oper} {o : Oper} {a : Act} {K : Act → World → Prop} {Q : Exit → Act → World → Prop} {E : Prop} (W : World) (hgd : o.guard = none) (s x : Operand)
    (ho : o.op = .call { callee := .builtin .append, args := #[s, x], argTypes := #[37, 37] })
    (w5 : World) (base : Nat) (v : Value) (H : List HV) (y : Int) (u : Value) (hs : a.eval s = v) (hx : a.eval x = .slice (some ⟨w5.heap.size, 0, none⟩) 1 1)
    (hW : W.heap = (w5.alloc (.cells #[.int .i64 y, u] 47)).heap ∧ W.os = w5.os ∧ W.tape = w5.tape ∧ W.output = w5.output) (hu : isSl u = true)
    (hown : HvOwn w5 base v H) (hl : H.length ≤ 1048576) (hbase : base ≤ w5.heap.size)
    (h : ∀ g cap w', HvOwn w' base (.slice (some ⟨g, 0, none⟩) (H.length + 1) cap) (H ++ [(y, u)]) → w5.grownBy w' v.ownBlock → (v.ownBlock = some g ∨ w5.heap.size ≤ g) → Below base w5 w' → K (a.put o.dst (.slice (some ⟨g, 0, none⟩) (H.length + 1) cap)) w') :
    if Region.wanted o (yielded ops a.tmps) = true then Oper.wp Tryd.prog o a W K Q else E := by
  obtain ⟨i0, hi, hz0, hz1, hz2⟩ := info_parts info_share
  have hbW : Below w5.heap.size w5 W := ⟨hW.2.1, hW.2.2.1, hW.2.2.2, by rw [hW.1]; simp, fun k hk => by rw [hW.1]; exact heap_alloc_old w5 _ hk⟩
  have hsz : W.heap.size = w5.heap.size + 1 := by rw [hW.1]; simp
  have hg : W.heap[w5.heap.size]? = some (.cells #[.int .i64 y, u] 47 (0, 0)) := by rw [hW.1]; exact heap_alloc_new w5 _
  refine step_append_lies _ hgd s x 37 ho base 47 i0 _ 2 32 Tryd.underlying37 hi hz0 hz1 hz2 rfl (by omega) v H.length (flatH H) hs (hown.below hbW) ⟨w5.heap.size, 0, none⟩ 1 1 (flatH [(y, u)]) hx (flatH_len [(y, u)]) (fun j z hz => ?_) (flatH_one [(y, u)] (fun k hk => ?_)) (by omega) (by unfold maxLen; omega) (by omega) (by omega) _ rfl ?_
  · have hj : j < 2 := by
      rcases Nat.lt_or_ge j 2 with h1 | h1
      · exact h1
      · rw [List.getElem?_eq_none (by rw [flatH_len]; simp; omega)] at hz; cases hz
    have : j = 0 ∨ j = 1 := by omega
    rcases this with rfl | rfl
    · rw [show (⟨w5.heap.size, 0, none⟩ : Addr).add 0 = ⟨w5.heap.size, 0, none⟩ from rfl, cell_of_row W w5.heap.size 0 _ _ (0, 0) hg, ← hz]; rfl
    · rw [show (⟨w5.heap.size, 0, none⟩ : Addr).add 1 = ⟨w5.heap.size, 1, none⟩ from rfl, cell_of_row W w5.heap.size 1 _ _ (0, 0) hg, ← hz]; rfl
  · have : k = 0 := by simp at hk; omega
    subst this; exact hu
  · intro g cap w' ho' hgr hat _
    have hg5 : w5.grownBy w' v.ownBlock := ⟨hgr.os.trans hbW.os, hgr.tape.trans hbW.tape, hgr.output.trans hbW.output, Nat.le_trans hbW.size hgr.size, fun k hk hne => (hgr.block k (by omega) hne).trans (hbW.block k hk)⟩
    refine h g cap w' ?_ hg5 (hat.elim .inl (fun e => .inr (by omega))) ((Below.refl _ _).grown hg5 hbase (fun k hk => (World.ownsRow.lt hown k hk).1))
    unfold HvOwn; rw [List.length_append, flatH_append]; exact ho'
theorem hSv_take {S : List Shr} {k : Nat} (h : k < S.length) : S.take (k + 1) = S.take k ++ [(hS S k, vS S k)] := by
  rw [List.take_succ_eq_append_getElem h]
  congr 1
  simp [hS, vS, List.getD_eq_getElem?_getD, h]
/-- The call returns a copy: rows of the own. -/
def CopyP (S : List Shr) (w : World) (e : Ending) (w' : World) : Prop := ∃ v H, e = .returned v ∧ RowsI w' w.heap.size v H S ∧ Below w.heap.size w w'

set_option maxRecDepth 100000 in
set_option maxHeartbeats 4000000 in
theorem copy_any {P : Nat → Prop} (A : Option Addr) (c : Nat) (S : List Shr) (w : World) (hS : ShP P w A c S) (hsh : Short S) (hl : S.length ≤ 1000000) :
    Calls Tryd.prog 49 #[.slice A S.length c] w (CopyP S w) := by
  have HS := Lib.hid hS
  have HSH := Lib.hid hsh
  clear hS hsh
  go_enter Tryd.func49, Tryd.ntmps49
  go_wp2_with fail
  go_loopw [3, 8] (fun o i wr => ∃ (k : Nat) (H : List HV), k ≤ S.length ∧ i = .int .i64 k ∧ RowsI wr w.heap.size o H (S.take k) ∧ Below w.heap.size w wr) (fun _ i _ => S.length - (intOf i).toNat)
  case atStart => exact ⟨0, [], Nat.zero_le _, rfl, ⟨HvOwn.nil _ _, rfl, fun k hk => absurd hk (by simp), fun k hk => absurd hk (by simp), fun i j hi => absurd hi (by simp), fun i hi => absurd hi (by simp)⟩, Below.refl _ _⟩
  case round =>
    obtain ⟨k, H, hk, rfl, hR, hbr⟩ := hrel
    have hlk : (S.take k).length = k := by rw [List.length_take]; omega
    obtain ⟨OA, oc, hv, -⟩ := hR.read
    rw [hlk] at hv
    subst hv
    have HLK := Lib.hid hlk
    clear hlk
    have hsz := hbr.size
    have hHl : H.length ≤ 1000000 := by rw [hR.len, List.length_take]; omega
    have HR := Lib.hid hR
    by_cases hlt : k < S.length
    · obtain ⟨b, off, B, c1, rfl, hb, -, h1, h2, h3⟩ := (HS.out.below hbr).at_ k hlt
      have HI := Lib.hid h3
      have hvl := HSH.out k hlt
      have HTK := Lib.hid (hSv_take hlt)
      have hlt' : k = H.length := HLK.out.symm.trans HR.out.len.symm
      generalize hS S k = x at *
      generalize vS S k = L at *
      have HTL := Lib.hid hlt'
      clear h3 hR hlt'
      go_wp2_with fail
      refine gen_world fun w1 hw1 => ?_
      have hb1 : Below wr.heap.size wr w1 := by rw [hw1]; exact below_alloc _ _
      have hsc : ShCell w1 wr.heap.size x (.slice B L.length c1) := by rw [hw1]; exact ShCell.new _ _ rfl
      have s0 := hsc.c0
      have s1 := hsc.c1
      have ls := blk_lt hsc
      have hz1 := hb1.size
      have HI1 := Lib.hid (HI.out.keep (Kept.below hb1))
      clear hw1 hsc h1 h2
      go_region_held3 (fun w' => w'.cell? ⟨wr.heap.size, 0, none⟩ = some (.int .i64 x) ∧ w'.cell? ⟨wr.heap.size, 1, none⟩ = some (.slice B L.length c1)) (first | go_keep | exact ⟨n60, n61⟩)
        (first
          | (refine step_app_ints _ rfl (.const (.slice none 0 0)) (.tmp 16) rfl L B c1 rfl rfl (by exact HI1.out.ints) HI1.out.ok (by omega) ?_; intro VA vc w4 hown4 hb4; have hb4' : Below w1.heap.size w1 w4 := (below_undrew1 hb4); have n40 := (hb4'.cell (p := ⟨wr.heap.size, 0, none⟩) ls).trans s0; have n41 := (hb4'.cell (p := ⟨wr.heap.size, 1, none⟩) ls).trans s1; have l4 : wr.heap.size < w4.heap.size := (Nat.lt_of_lt_of_le ls hb4'.size))
          | (refine step_app_hv _ rfl (.tmp 12) (.tmp 19) rfl w4 w.heap.size (.slice OA k oc) H x (.slice VA L.length vc) rfl rfl ⟨rfl, rfl, rfl, rfl⟩ rfl (HR.out.out.below (below_trans hb1 hb4')) (by omega) (by omega) ?_; intro g6 c6 w6 hown6 hg6 hat6 hb6; have n60 : w6.cell? ⟨wr.heap.size, 0, none⟩ = some (.int .i64 x) := (World.cell?_of_block (w := w4) (hg6.block wr.heap.size l4 (fun e => by have := (World.ownsRow.lt HR.out.out _ e.symm).2; omega))).trans n40; have n61 : w6.cell? ⟨wr.heap.size, 1, none⟩ = some (.slice B L.length c1) := (World.cell?_of_block (w := w4) (hg6.block wr.heap.size l4 (fun e => by have := (World.ownsRow.lt HR.out.out _ e.symm).2; omega))).trans n41))
      all_goals
        have HM := Lib.hid (HR.out.more (below_trans hb1 hb4') x L (ownsRow_mono hown4 (by simp [drew_size]; exact hz1)) hsz hown6 hg6 (hat6.elim (fun e => .inl e.symm) (fun e => .inr (fun b e2 => by have : g6 = b := Option.some.inj (show some g6 = some b from e2); omega))))
        have HB := Lib.hid (hbr.trans (((below_trans hb1 hb4').mono hsz).trans hb6))
        clear hown4 hown6 hg6 hat6
        go_wp2_with fail
        go_roundw
        case rel => exact ⟨k + 1, _, by omega, by go_num, by rw [HTK.out]; exact HM.out, HB.out⟩
        case measure => simp [intOf]; omega
    · obtain rfl : k = S.length := by omega
      rw [List.take_length] at HR
      clear hR
      go_wp2_with fail
      go_ret
      exact ⟨_, _, rfl, HR.out, hbr⟩
end Go.Proofs.YtkjpnhhkebbmdaaDoor
