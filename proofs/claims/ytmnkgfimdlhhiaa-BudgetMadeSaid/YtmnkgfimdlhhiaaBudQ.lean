/-
  Budgets made by dice: the walk of play.Budget.
-/
import Derived.Test.YtmnkgfimdlhhiaaBudP
namespace Go.Proofs.Ytmnkgfimdlhhiaa
open Go.RowKit

theorem BudCell.grown {w w' : World} {x D : Nat} {P A : Int} {v : Value} (h : BudCell w x P A v) (hg : w.grownBy w' (some D)) (hx : x ≠ D) : BudCell w' x P A v :=
  (hg.block x (blk_lt h) (fun e => by injection e with e; exact hx e)).trans h
theorem SpOwn.grown {w w' : World} {base D : Nat} {v : Value} {S : List Spd} (h : SpOwn w base v S) (hg : w.grownBy w' (some D)) (hD : D < base) : SpOwn w' base v S := by
  obtain ⟨h1, h2⟩ := h
  refine ⟨h1, ?_⟩
  rcases h2 with h2 | ⟨g, cap, cur, hv, hgb, hh, r⟩
  · exact .inl h2
  · exact .inr ⟨g, cap, cur, hv, hgb, (hg.block g (blk_lt hh) (fun e => by injection e with e; omega)).trans hh, r⟩
theorem grown_set {w w' : World} {r : Option Nat} (h : w.grownBy w' r) (p : Addr) (u : Value) (hp : w.heap.size ≤ p.block) : w.grownBy (w'.setCell p u) r :=
  ⟨h.os, h.tape, h.output, by simpa [World.setCell] using h.size, fun k hk hne => (Below.heap_setCell w' p u k (by omega)).trans (h.block k hk hne)⟩
/-- A budget made by dice. -/
def BudP (D : Nat) (w : World) (e : Ending) (w' : World) : Prop :=
  ∃ (P A : Int) (S : List Spd) (v : Value) (R' : List Int) (tm : Int), e = .returned (.agg #[.int .i64 P, .int .i64 A, v]) ∧ (1 ≤ P ∧ P ≤ 10) ∧ (0 ≤ A ∧ A ≤ 5) ∧ Made P A S tm ∧ tm ≤ 25 ∧ S.length ≤ 5 ∧ SpOwn w' w.heap.size v S ∧ DiceAt w' D R' ∧ w.grownBy w' (some D)
/-- The loop of Budget, under way. -/
structure BLoop (w : World) (D bb : Nat) (P A : Int) (n : Nat) (tm : Int) (S : List Spd) (v : Value) (R : List Int) (wr : World) : Prop where
  n5 : n ≤ 5
  made : Made P A S tm
  tm0 : 0 ≤ tm
  tm1 : tm + 5 * n ≤ 25
  len : S.length + n ≤ 5
  box : BudCell wr bb P A v
  own : SpOwn wr (bb + 1) v S
  res : BudCell wr w.heap.size 0 0 (.slice none 0 0)
  dice : DiceAt wr D R
  grew : w.grownBy wr (some D)
theorem BLoop.next {w wr w' : World} {D bb : Nat} {P A : Int} {n : Nat} {tm : Int} {S : List Spd} {v : Value} {R : List Int} (h : BLoop w D bb P A (n + 1) tm S v R wr) (hD : D < w.heap.size) (hbb : w.heap.size ≤ bb) {d : Int} (hd : 0 ≤ d ∧ d ≤ 5) {R' : List Int} (hD' : DiceAt w' D R') (hg : wr.grownBy w' (some D)) : BLoop w D bb P A n (tm + d) S v R' w' :=
  ⟨by have := h.n5; omega, h.made.later (by omega), by have := h.tm0; omega, by have := h.tm1; push_cast at this; omega, by have := h.len; omega, h.box.grown hg (by omega), h.own.grown hg (by omega), h.res.grown hg (by omega), hD', grown_trans h.grew hg⟩
theorem BLoop.below {w wr w' : World} {D bb : Nat} {P A : Int} {n : Nat} {tm : Int} {S : List Spd} {v : Value} {R : List Int} (h : BLoop w D bb P A n tm S v R wr) (hb : Below wr.heap.size wr w') : BLoop w D bb P A n tm S v R w' :=
  ⟨h.n5, h.made, h.tm0, h.tm1, h.len, h.box.below hb, h.own.below hb, h.res.below hb, h.dice.below hb, grown_trans h.grew (grown_of_below hb)⟩
theorem BLoop.dice2 {w wr w' : World} {D bb : Nat} {P A : Int} {n : Nat} {tm : Int} {S : List Spd} {v : Value} {R : List Int} (h : BLoop w D bb P A n tm S v R wr) (hD : D < w.heap.size) (hbb : w.heap.size ≤ bb) {R' : List Int} (hD' : DiceAt w' D R') (hg : wr.grownBy w' (some D)) : BLoop w D bb P A n tm S v R' w' :=
  ⟨h.n5, h.made, h.tm0, h.tm1, h.len, h.box.grown hg (by omega), h.own.grown hg (by omega), h.res.grown hg (by omega), hD', grown_trans h.grew hg⟩
/-- What an append in the round leaves. -/
theorem BLoop.app {w wr w' : World} {D bb : Nat} {P A : Int} {n : Nat} {tm c : Int} {S : List Spd} {v v' : Value} {R : List Int} {o : Obj} (h : BLoop w D bb P A n tm S v R wr) (hD : D < w.heap.size) (hbb : w.heap.size < bb) (hlen : S.length + n + 1 ≤ 5) (hc : 1 ≤ c ∧ c ≤ 1073741824) (hu : used P S tm + c ≤ A)
    (hg : (wr.alloc o).grownBy w' v.ownBlock) (hown : SpOwn w' (bb + 1) v' (S ++ [(tm, c)])) :
    BudCell w' bb P A v ∧ BLoop w D bb P A n tm (S ++ [(tm, c)]) v' R (w'.setCell ⟨bb, 2, none⟩ v') := by
  have hbl := blk_lt h.box
  have hob : ∀ k, v.ownBlock = some k → bb + 1 ≤ k := fun k e => (h.own.lt k e).1
  have hk : ∀ k, k ≤ bb → w'.heap[k]? = wr.heap[k]? := fun k hk => (hg.block k (by simp; omega) (fun e => by have := hob k e.symm; omega)).trans (heap_alloc_old wr o (by omega))
  have h1 : BudCell w' bb P A v := (hk _ (Nat.le_refl _)).trans h.box
  have h2 : BudCell w' w.heap.size 0 0 (.slice none 0 0) := (hk _ (by omega)).trans h.res
  have hd : DiceAt w' D R := h.dice.keep fun k hk' => hk k (by omega)
  have hs := hg.size
  simp at hs
  have hgr : w.grownBy w' (some D) := by
    have hg0 := h.grew
    exact ⟨hg.os.trans hg0.os, hg.tape.trans hg0.tape, hg.output.trans hg0.output, by have := hg0.size; omega, fun k hk' hne => (hk k (by omega)).trans (hg0.block k hk' hne)⟩
  have h25 := h.tm1
  have h0 := h.tm0
  refine ⟨h1, h.n5, h.made.snoc ⟨h0, by omega⟩ hc hu, h0, h25, by simp; omega, h1.set2 _, hown.set_ _ _ (by simp), h2.other _ _ (by simp; omega), hd.setCell _ _ (by simp; omega), ?_⟩
  exact ⟨hgr.os, hgr.tape, hgr.output, by simpa [World.setCell] using hgr.size, fun k hk' hne => (Below.heap_setCell w' ⟨bb, 2, none⟩ v' k (by simp; omega)).trans (hgr.block k hk' hne)⟩

set_option maxRecDepth 100000 in
set_option maxHeartbeats 4000000 in
theorem budget_any (D : Nat) (R : List Int) (w : World) (h : DiceAt w D R) :
    Calls Try.prog 16 #[.pointer (some ⟨D, 0, none⟩)] w (BudP D w) := by
  have hDl := h.lt
  have HD := Lib.hid h
  clear h
  go_enter Try.func16, Try.ntmps16
  go_wp2_with fail
  have hof := of_any D R (some ⟨w.heap.size + 1, 0, none⟩) [10, 1, 7] 3 _ ((HD.out.alloc (.cells #[.int .i64 0, .int .i64 0, .slice none 0 0] 24)).alloc (.cells ([10, 1, 7].map (Value.int .i64)).toArray 3))
    (by have := lit_ints (w.alloc (.cells #[.int .i64 0, .int .i64 0, .slice none 0 0] 24)) [10, 1, 7]; simpa using this) (fun b off e => by injection e with e; injection e with e1; omega) (by simp) (by simp)
  refine hof.mono ?_
  clear hof
  rintro e w1 ⟨k, hk, rfl, hD1, hg1⟩
  have hP : 1 ≤ nth [10, 1, 7] k ∧ nth [10, 1, 7] k ≤ 10 := by
    have : k = 0 ∨ k = 1 ∨ k = 2 := by simp at hk; omega
    rcases this with rfl | rfl | rfl <;> simp [nth]
  obtain ⟨P, hPe⟩ : ∃ P, P = nth [10, 1, 7] k := ⟨_, rfl⟩
  rw [← hPe] at hP ⊢
  have HG1 := Lib.hid (grown_trans (grown_of_below (r := some D) ((below_alloc w _).alloc (by simp) _)) hg1)
  have hres1 : BudCell w1 w.heap.size 0 0 (.slice none 0 0) := ((BudCell.new (w := w) 0 0 (.slice none 0 0) rfl).alloc _).grown hg1 (by omega)
  have HR1 := Lib.hid hres1
  clear hPe hg1 hres1 hk
  generalize R.tail = R1 at *
  go_wp2_with fail
  refine (next_any D R1 6 _ hD1 (by omega)).mono ?_
  rintro e w2 ⟨rfl, hD2, hg2⟩
  obtain ⟨m1, m2⟩ := nextV_range R1 6 (by omega)
  generalize nextV R1 6 = A at *
  have HG2 := Lib.hid (grown_trans HG1.out hg2)
  have HR2 := Lib.hid (HR1.out.grown hg2 (by omega))
  generalize R1.tail = R2 at *
  clear HG1 HR1 hD1 hg2
  go_wp2_with fail
  refine (next_any D R2 6 _ (by first | exact hD2.alloc _ | exact (((hD2.alloc _).setCell _ _ (by simp; omega)).setCell _ _ (by simp; omega)).setCell _ _ (by simp; omega)) (by omega)).mono ?_
  rintro e w4 ⟨rfl, hD4, hg4⟩
  have hs2 := hD2.lt
  have hgz := HG2.out.size
  have hbox4 : BudCell w4 w2.heap.size P A (.slice none 0 0) := by
    refine BudCell.grown ?_ hg4 (by omega)
    first | exact BudCell.new _ _ _ rfl | exact (((BudCell.new (w := w2) 0 0 (.slice none 0 0) rfl).set0 P).set1 A).set2 _
  have hres4 : BudCell w4 w.heap.size 0 0 (.slice none 0 0) := by
    refine BudCell.grown ?_ hg4 (by omega)
    first | exact HR2.out.alloc _ | exact (((HR2.out.alloc _).other _ _ (by have := blk_lt HR2.out; simp; omega)).other _ _ (by have := blk_lt HR2.out; simp; omega)).other _ _ (by have := blk_lt HR2.out; simp; omega)
  have hgr4 : w.grownBy w4 (some D) := by
    refine grown_trans HG2.out (grown_trans (grown_of_below ?_) hg4)
    first | exact below_alloc _ _ | exact below_set (below_set (below_set (below_alloc _ _) _ _ (by simp)) _ _ (by simp)) _ _ (by simp)
  obtain ⟨n1, n2⟩ := nextV_range R2 6 (by omega)
  generalize nextV R2 6 = nn at *
  obtain ⟨n, rfl⟩ := Int.eq_ofNat_of_zero_le n1
  have hwlt := blk_lt HR2.out
  have HB := Lib.hid (show BLoop w D w2.heap.size P A n 0 [] (.slice none 0 0) R2.tail w4 from ⟨by omega, Made.nil P A, by omega, by omega, by simp; omega, hbox4, SpOwn.nil _ _, hres4, hD4, hgr4⟩)
  obtain ⟨bb, hbb⟩ : ∃ bb, bb = w2.heap.size := ⟨_, rfl⟩
  rw [← hbb] at HB hwlt ⊢
  generalize R2.tail = R3 at *
  clear hbb hbox4 hres4 hgr4 hD4 hg4 hD2 HG2 HR2 n1 n2 hs2 hgz
  obtain ⟨p1, p2⟩ := hP
  have z1 : ¬ P = 0 := by omega
  have z2 : (P == 0) = false := by simp; omega
  go_wp2_with fail
  go_loopw [5, 4] (fun n t wr => ∃ (n' : Nat) (tm : Int) (S : List Spd) (v : Value) (R' : List Int), n = .int .i64 n' ∧ t = .int .i64 tm ∧ BLoop w D bb P A n' tm S v R' wr) (fun n _ _ => (intOf n).toNat)
  case atStart => exact ⟨n, 0, [], _, R3, rfl, rfl, HB.out⟩
  case round =>
    clear HB
    obtain ⟨n, tm, S, v, R', rfl, rfl, hB⟩ := hrel
    have hn5 := hB.n5
    have ht0 := hB.tm0
    have ht1 := hB.tm1
    have hln := hB.len
    obtain ⟨C, c, rfl, -, -, -⟩ := hB.own.at_
    rcases n with _ | n
    · have x0 := hB.box.c0
      have x1 := hB.box.c1
      have x2 := hB.box.c2
      have y0 := hB.res.c0
      have y1 := hB.res.c1
      have y2 := hB.res.c2
      have f0 := hB.res.frozen 0
      have f1 := hB.res.frozen 1
      have f2 := hB.res.frozen 2
      have HB := Lib.hid hB
      clear hB
      go_wp2_with fail
      refine bodyPost_ret (results_bud rfl _ _ w.heap.size rfl (P := P) (A := A) (v := .slice C S.length c) (((HB.out.res.set0 P).set1 A).set2 _)) rfl ⟨P, A, S, _, R', tm, rfl, ⟨p1, p2⟩, by omega, HB.out.made, by omega, by omega, ?_, ?_, ?_⟩
      · exact ((((HB.out.own.set_ _ _ (by simp; omega)).set_ _ _ (by simp; omega)).set_ _ _ (by simp; omega))).mono (by omega)
      · exact ((HB.out.dice.setCell _ _ (by simp; omega)).setCell _ _ (by simp; omega)).setCell _ _ (by simp; omega)
      · exact grown_set (grown_set (grown_set HB.out.grew _ _ (by simp)) _ _ (by simp)) _ _ (by simp)
    · have HB := Lib.hid hB
      have hdc := hB.dice
      clear hB
      go_wp2_with fail
      refine (next_any D R' 6 _ hdc (by omega)).mono ?_
      rintro e w5 ⟨rfl, hD5, hg5⟩
      obtain ⟨m1, m2⟩ := nextV_range R' 6 (by omega)
      generalize nextV R' 6 = d at *
      have hB5 := HB.out.next hDl (by omega) (d := d) ⟨m1, by omega⟩ hD5 hg5
      generalize R'.tail = R5 at *
      obtain ⟨tn, htn⟩ : ∃ tn, tn = tm + d := ⟨_, rfl⟩
      have ht0' : 0 ≤ tn := by omega
      have ht1' : tn ≤ 25 := by omega
      rw [← htn] at hB5
      have hwr : IntKind.i64.wrap (tm + d) = tn := by rw [htn]; exact IntWalk.i64_in _ (by omega)
      have HB5 := Lib.hid hB5
      have x2 := hB5.box.c2
      have hbx := blk_lt hB5.box
      obtain ⟨Cx, cx, ec, hC5, -, -⟩ := hB5.own.at_
      injection ec with ec1 ec2 ec3
      subst ec1; subst ec3
      have HC5 := Lib.hid hC5
      have hrg : ∀ k, k ≤ S.length → 0 ≤ sumK (perT P tn) S k ∧ sumK (perT P tn) S k ≤ 1073741824 * k := fun k hk => sumK_range2 (perT P tn) k (fun j hj => by have := (hB5.made.rows j (by omega)).2.2.2; omega)
      have HRG := Lib.hid hrg
      clear hrg
      have HTI := Lib.hid (RowOK.times hB5.made.rows)
      have HCH := Lib.hid (RowOK.cheap hB5.made.rows)
      clear hB5 HB hdc hD5 hg5 hC5 htn
      go_wp2_with fail
      clear hwr
      go_loopw [29, 6] (fun i s wr => ∃ k : Nat, k ≤ S.length ∧ i = .int .i64 k ∧ s = .int .i64 (sumK (perT P tn) S k) ∧ Below w5.heap.size w5 wr) (fun i _ _ => S.length - (intOf i).toNat)
      case atStart => exact ⟨0, Nat.zero_le _, rfl, rfl, Below.refl _ _⟩
      case round =>
        obtain ⟨k, hk, rfl, rfl, hbr⟩ := hrel
        have hr := HRG.out k hk
        have x0 := (HB5.out.box.below hbr).c0
        by_cases hlt : k < S.length
        · obtain ⟨b, off, rfl, hbl, e0, e1⟩ := HC5.out.below hbr k hlt
          have hti := HTI.out k hlt
          have hch := HCH.out k hlt
          obtain ⟨u1, u2⟩ := hti
          obtain ⟨u3, u4⟩ := hch
          have q1 : (tS S k).tdiv P = tS S k / P := Int.tdiv_eq_ediv_of_nonneg u1
          have q2 : tn.tdiv P = tn / P := Int.tdiv_eq_ediv_of_nonneg ht0'
          have c1 := Int.ediv_nonneg u1 (show 0 ≤ P by omega)
          have c2 := Int.ediv_le_self P u1
          have c3 := Int.ediv_nonneg ht0' (show 0 ≤ P by omega)
          have c4 := Int.ediv_le_self P ht0'
          have v1 : IntKind.i64.wrap (tS S k / P) = tS S k / P := IntWalk.i64_in _ (by omega)
          have v2 : IntKind.i64.wrap (tn / P) = tn / P := IntWalk.i64_in _ (by omega)
          have v3 : IntKind.i64.wrap (sumK (perT P tn) S k + cS S k) = sumK (perT P tn) S k + cS S k := IntWalk.i64_in _ (by omega)
          have hbrs := hbr.size
          go_wp2_with fail
          refine gen_world fun w6 hw6 => ?_
          have hb6 : Below wr.heap.size wr w6 := by rw [hw6]; exact below_alloc _ _
          obtain ⟨g0, g1⟩ : w6.cell? ⟨wr.heap.size, 0, none⟩ = some (.int .i64 (tS S k)) ∧ w6.cell? ⟨wr.heap.size, 1, none⟩ = some (.int .i64 (cS S k)) := by rw [hw6]; exact pair_cells _ _ _
          have x06 := (hb6.cell (p := ⟨bb, 0, none⟩) (by simp; omega)).trans x0
          have hb56 : Below w5.heap.size w5 w6 := hbr.trans (hb6.mono hbrs)
          clear hw6 e0 e1 x0
          by_cases hq : tS S k / P = tn / P
          · have HV := Lib.hid (show addT (perT P tn) (S.getD k (0, 0)) = cS S k from addT_yes (by unfold perT; exact decide_eq_true hq))
            have hqb : (tS S k / P == tn / P) = true := by simp [hq]
            clear hq
            go_quiet (fail)
            go_wp2_with fail
            go_roundw
            case rel => exact ⟨k + 1, by omega, by go_num, by rw [sumK_succ, HV.out], below_drewN hb56 _⟩
            case measure => simp [intOf]; omega
          · have HV := Lib.hid (show addT (perT P tn) (S.getD k (0, 0)) = 0 from addT_no (by unfold perT; exact decide_eq_false hq))
            have hqb : (tS S k / P == tn / P) = false := by simp [hq]
            clear hq
            go_quiet (fail)
            go_wp2_with fail
            go_roundw
            case rel => exact ⟨k + 1, by omega, by go_num, by rw [sumK_succ, HV.out, Int.add_zero], below_drewN hb56 _⟩
            case measure => simp [intOf]; omega
        · have hke : sumK (perT P tn) S k = used P S tn := by rw [show k = S.length by omega]; rfl
          rw [hke] at hr ⊢
          have hB6 := HB5.out.below hbr
          have hd6 := hB6.dice
          have HB6 := Lib.hid hB6
          clear hB6 hke x0
          go_wp2_with fail
          refine (next_any D R5 2 _ hd6 (by omega)).mono ?_
          rintro e w7 ⟨rfl, hD7, hg7⟩
          obtain ⟨m3, m4⟩ := nextV_range R5 2 (by omega)
          generalize nextV R5 2 = d2 at *
          have hB7 := HB6.out.dice2 hDl (by omega) hD7 hg7
          have x1 := hB7.box.c1
          have HB7 := Lib.hid hB7
          have hln7 := hB7.len
          clear hB7 HB6 hd6 hD7 hg7 HB5
          generalize R5.tail = R7 at *
          obtain ⟨c7, hc7⟩ : ∃ c7, c7 = 1 + d2 := ⟨_, rfl⟩
          have hwc : IntKind.i64.wrap (1 + d2) = c7 := by rw [hc7]; exact IntWalk.i64_in _ (by omega)
          have hc71 : 1 ≤ c7 := by omega
          have hc72 : c7 ≤ 2 := by omega
          clear hc7 m3 m4
          have hrr : used P S tn ≤ 1073741824 * 5 := by omega
          by_cases hu : used P S tn + c7 ≤ A
          · have x2' := HB7.out.box.c2
            have hb7s := blk_lt HB7.out.box
            go_wp2_with (first | (at_builtin; refine app_spends rfl (.tmp 58) (.tmp 62) rfl (base := bb + 1) (S := S) (T := [(tn, c7)]) (v := .slice C S.length c) (b := w7.heap.size) (off := 0) (c := 1) rfl (HB7.out.own.below (below_alloc _ _)) rfl (one_at _ _ _) (by simp; omega) (by simp; omega) ?_; intro v8 w8 hown8 hg8 hb8; obtain ⟨C8, c8, ev, -, -, -⟩ := hown8.at_; rw [show (S ++ [(tn, c7)]).length = S.length + 1 by simp] at ev; subst ev; have hB8 := HB7.out.app hDl (by omega) (by omega) ⟨hc71, by omega⟩ hu hg8 hown8; have z2 := hB8.1.c2; have z3 := hB8.1.frozen 2; have HB8 := Lib.hid hB8.2; clear hB8 hown8 hg8 hb8) | fail)
            go_roundw
            case rel => exact ⟨n, tn, S ++ [(tn, c7)], _, R7, by go_num, rfl, HB8.out⟩
            case measure => simp [intOf]
          · go_wp2_with fail
            go_roundw
            case rel => exact ⟨n, tn, S, _, R7, by go_num, rfl, HB7.out⟩
            case measure => simp [intOf]
end Go.Proofs.Ytmnkgfimdlhhiaa
