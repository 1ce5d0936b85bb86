/-
  Budgets: Clean, the document's.
-/
import Derived.Test.YtmnkgfimdlhhiaaBudI
import Derived.Deep.AppendLies
import Derived.Deep.RegionLaw
import Derived.Deep.AppendLies
import Derived.Deep.RegionLaw
import Derived.Deep.AppendLies
import Derived.Deep.RegionLaw
import Derived.Deep.AppendLies
import Derived.Deep.RegionLaw
import Derived.Deep.AppendLies
import Derived.Deep.RegionLaw
import Derived.Deep.AppendLies
import Derived.Deep.RegionLaw
namespace Go.Proofs.Ytmnkgfimdlhhiaa
open Go.RowKit

def keepN (P t : Int) (S : List Spd) (k : Nat) : List Spd := (S.take k).filter (keepC P t)
theorem keepN_yes {P t : Int} {S : List Spd} {k : Nat} (hk : k < S.length) (h : t / P * P ≤ tS S k) : keepN P t S (k + 1) = keepN P t S k ++ [(tS S k, cS S k)] := by
  have e : S.take (k + 1) = S.take k ++ [S.getD k (0, 0)] := by
    rw [List.take_succ_eq_append_getElem hk]; simp [List.getD_eq_getElem?_getD, hk]
  have hy : keepC P t (S.getD k (0, 0)) = true := decide_eq_true h
  unfold keepN
  rw [e, List.filter_append, List.filter_cons_of_pos hy]; rfl
theorem keepN_no {P t : Int} {S : List Spd} {k : Nat} (hk : k < S.length) (h : ¬ t / P * P ≤ tS S k) : keepN P t S (k + 1) = keepN P t S k := by
  have e : S.take (k + 1) = S.take k ++ [S.getD k (0, 0)] := by
    rw [List.take_succ_eq_append_getElem hk]; simp [List.getD_eq_getElem?_getD, hk]
  have hy : ¬ keepC P t (S.getD k (0, 0)) = true := by unfold keepC; rw [decide_eq_true_eq]; exact h
  unfold keepN
  rw [e, List.filter_append, List.filter_cons_of_neg hy]; simp
theorem keepN_len (P t : Int) (S : List Spd) (k : Nat) : (keepN P t S k).length ≤ S.length :=
  Nat.le_trans (List.length_filter_le _ _) (by simp; omega)
theorem keepN_end (P t : Int) (S : List Spd) : keepN P t S S.length = S.filter (keepC P t) := by unfold keepN; rw [List.take_length]
theorem news_pair (w : World) (t x : Int) : ∀ j u, [Value.int .i64 t, Value.int .i64 x][j]? = some u → (w.alloc (.cells #[.int .i64 t, .int .i64 x] 33)).cell? ((⟨w.heap.size, 0, none⟩ : Addr).add j) = some u := fun j u hu => by
  obtain ⟨h1, h2⟩ := pair_cells w t x
  match j, hu with
  | 0, hu => simp at hu; subst hu; exact h1
  | 1, hu => simp at hu; subst hu; exact h2
  | j + 2, hu => simp at hu
theorem app_kept {w3 w5 W w6 : World} {B x : Nat} {P A : Int} {v : Value} {o : Obj} {r : Option Nat} (hg : W.grownBy w6 r) (hb : Below B w3 w5) (hX : BudCell w5 x P A v) (hW : W.heap = (w5.alloc o).heap ∧ W.os = w5.os ∧ W.tape = w5.tape ∧ W.output = w5.output) (hx : some x ≠ r) (hr : ∀ k, r = some k → B ≤ k) (hz : B < w5.heap.size) :
    BudCell w6 x P A v ∧ Below B w3 w6 := by
  obtain ⟨e1, e2, e3, e4⟩ := hW
  have hb5 : Below B w3 (w5.alloc o) := hb.alloc (by omega) o
  have hbW : Below B w3 W := ⟨e2.trans hb.os, e3.trans hb.tape, e4.trans hb.output, by rw [e1]; exact hb5.size, fun k hk => by rw [e1]; exact hb5.block k hk⟩
  have hxl := blk_lt hX
  have hXW : BudCell W x P A v := by unfold BudCell; rw [e1]; exact (heap_alloc_old w5 o hxl).trans hX
  have hsz : W.heap.size = w5.heap.size + 1 := by rw [e1]; simp
  exact ⟨(hg.block x (by omega) hx).trans hXW, hbW.grown hg (by omega) hr⟩
theorem step_app_out {ops : Array Oper} {o : Oper} {a : Act} {K : Act → World → Prop} {Q : Exit → Act → World → Prop} {E : Prop} (W : World) (hgd : o.guard = none) (s x : Operand)
    (ho : o.op = .call { callee := .builtin .append, args := #[s, x], argTypes := #[22, 22] })
    (w3 w5 : World) (B y : Nat) (P A t c : Int) (v : Value) (n : Nat) (D : List Spd) (hs : a.eval s = v) (hx : a.eval x = .slice (some ⟨w5.heap.size, 0, none⟩) 1 1) (hW : W.heap = (w5.alloc (.cells #[.int .i64 t, .int .i64 c] 33)).heap ∧ W.os = w5.os ∧ W.tape = w5.tape ∧ W.output = w5.output)
    (hn : n = D.length) (hl : n ≤ 100000) (hown : SpOwn w5 (B + 1) v D) (hb : Below B w3 w5) (hX : BudCell w5 y P A v) (hy : y ≤ B) (hz : B < w5.heap.size)
    (h : ∀ g cap w', SpOwn w' (B + 1) (.slice (some ⟨g, 0, none⟩) (n + 1) cap) (D ++ [(t, c)]) → BudCell w' y P A v → Below B w3 w' → w'.cell? ⟨y, 2, none⟩ = some v → w'.frozen? ⟨y, 2, none⟩ = false → K (a.put o.dst (.slice (some ⟨g, 0, none⟩) (n + 1) cap)) w') :
    if Region.wanted o (yielded ops a.tmps) = true then Oper.wp Try.prog o a W K Q else E := by
  obtain ⟨i0, hi, hz0, hz1, hz2⟩ := info_parts info_spend
  have hownW : SpOwn W (B + 1) v D := by
    obtain ⟨h1, h2⟩ := hown.below (below_alloc w5 (.cells #[.int .i64 t, .int .i64 c] 33))
    refine ⟨h1, ?_⟩
    rw [hW.1]; exact h2
  have hsz : W.heap.size = w5.heap.size + 1 := by rw [hW.1]; simp
  have hcell : ∀ x, W.cell? x = (w5.alloc (.cells #[.int .i64 t, .int .i64 c] 33)).cell? x := fun x => by unfold World.cell?; rw [hW.1]
  refine step_append_lies _ hgd s x 22 ho (B + 1) 33 i0 _ 2 16 Try.underlying22 hi hz0 hz1 hz2 rfl (by omega) v n (flat D) hs (by rw [hn]; exact hownW) ⟨w5.heap.size, 0, none⟩ 1 1 [.int .i64 t, .int .i64 c] hx rfl (fun j u hu => (hcell _).trans (news_pair w5 t c j u hu)) (by simp [Value.oneCell']) (by omega) (by unfold maxLen; omega) (by omega) (by omega) _ rfl ?_
  intro g cap w' ho' hg _ _
  obtain ⟨h1, h2⟩ := app_kept hg hb hX hW (fun e => by have := (hown.lt _ e.symm).1; omega) (fun k e => by have := (hown.lt k e).1; omega) hz
  refine h g cap w' ?_ h1 h2 h1.c2 (h1.frozen 2)
  unfold SpOwn; rw [List.length_append, flat_append, ← hn]; exact ho'
theorem St.done2 {w wr : World} {P A : Int} {v v0 : Value} {S S0 : List Spd} (h : St w wr P A v0 S0) (hown : SpOwn wr (w.heap.size + 2) v S) :
    BudCell (((wr.setCell ⟨w.heap.size + 1, 0, none⟩ (.int .i64 P)).setCell ⟨w.heap.size + 1, 1, none⟩ (.int .i64 A)).setCell ⟨w.heap.size + 1, 2, none⟩ v) (w.heap.size + 1) P A v ∧
    SpOwn (((wr.setCell ⟨w.heap.size + 1, 0, none⟩ (.int .i64 P)).setCell ⟨w.heap.size + 1, 1, none⟩ (.int .i64 A)).setCell ⟨w.heap.size + 1, 2, none⟩ v) w.heap.size v S ∧
    Below w.heap.size w (((wr.setCell ⟨w.heap.size + 1, 0, none⟩ (.int .i64 P)).setCell ⟨w.heap.size + 1, 1, none⟩ (.int .i64 A)).setCell ⟨w.heap.size + 1, 2, none⟩ v) :=
  ⟨((h.res.set0 P).set1 A).set2 v, (((hown.set_ _ _ (by simp)).set_ _ _ (by simp)).set_ _ _ (by simp)).mono (by omega),
    below_set (below_set (below_set h.below _ _ (by simp)) _ _ (by simp)) _ _ (by simp)⟩

set_option maxRecDepth 100000 in
set_option maxHeartbeats 4000000 in
theorem refClean_any (P A : Int) (B : Option Addr) (S : List Spd) (c : Nat) (t : Int) (w : World) (hS : SpAt w B S) (hA : ∀ a, B = some a → a.spot = none ∨ S.length = 0) (hN : B = none → S.length = 0 ∧ c = 0) (hl : S.length ≤ 100000) :
    Calls Try.prog 42 #[.agg #[.int .i64 P, .int .i64 A, .slice B S.length c], .int .i64 t] w (SpendP w P A (clS P A S t) (clE P A S t)) := by
  have HS := Lib.hid hS
  clear hS
  go_enter Try.func42, Try.ntmps42
  go_wp2_with fail
  refine (copy_any P A B S c _ ((HS.out.alloc _).alloc _) hA hN hl).mono ?_
  rintro e w1 ⟨v, rfl, hown, hb⟩
  obtain ⟨C, c', rfl, -, -, -⟩ := hown.at_
  obtain ⟨⟨hX, hY⟩, -, hSt⟩ := St.start hb hown
  have x0 := hX.c0
  have x1 := hX.c1
  have f0 := hX.frozen 0
  have f1 := hX.frozen 1
  have f2 := hX.frozen 2
  have x2 := hX.c2
  clear hX hY hb hown hA hN HS
  go_wp2_with fail
  clear x0 x1 x2 f0 f1 f2
  obtain ⟨C', c'', ec, hC, -, -⟩ := hSt.own.at_
  injection ec with ec1 ec2 ec3
  subst ec1; subst ec3
  refine ret_below (refCheck_any P A C S c' _ hC hl) fun w3 hb3 => ?_
  have hSt3 := hSt.later hb3
  clear hSt hb3 hC
  have x0 := hSt3.box.c0
  have x1 := hSt3.box.c1
  have x2 := hSt3.box.c2
  have y0 := hSt3.res.c0
  have y1 := hSt3.res.c1
  have y2 := hSt3.res.c2
  have f0 := hSt3.res.frozen 0
  have f1 := hSt3.res.frozen 1
  have f2 := hSt3.res.frozen 2
  have hs3 := hSt3.size
  have HST := Lib.hid hSt3
  clear hSt3
  by_cases hok : BudOK P A S
  case neg =>
    have HV := Lib.hid (clS_err (clE_bad (t := t) hok) (by omega))
    rw [← budE_bad hok]
    clear hok
    go_wp2_with fail
    obtain ⟨d1, d2⟩ := HST.out.done
    exact bodyPost_ret (results_bud2 rfl _ _ (w.heap.size + 1) rfl d1) rfl (SpendP.mk HV.out d2)
  case pos =>
  have HOK := Lib.hid hok
  rw [budE_ok hok]
  clear hok
  by_cases g0 : t < 0
  · have HV := Lib.hid (clS_err (clE_time (t := t) HOK.out (fun h => by omega)) (by omega))
    go_wp2_with fail
    obtain ⟨d1, d2⟩ := HST.out.done
    exact bodyPost_ret (results_bud2 rfl _ _ (w.heap.size + 1) rfl d1) rfl (SpendP.mk HV.out d2)
  by_cases g1 : 1099511627776 < t
  · have HV := Lib.hid (clS_err (clE_time (t := t) HOK.out (fun h => by omega)) (by omega))
    go_wp2_with fail
    obtain ⟨d1, d2⟩ := HST.out.done
    exact bodyPost_ret (results_bud2 rfl _ _ (w.heap.size + 1) rfl d1) rfl (SpendP.mk HV.out d2)
  have HT := Lib.hid (show 0 ≤ t ∧ t ≤ 1099511627776 by omega)
  have HV := Lib.hid (clS_ok (clE_ok HOK.out HT.out))
  have p1 := HOK.out.1.1
  have p2 := HOK.out.1.2.1
  go_wp2_with fail
  refine gen_world fun w4 hw4 => ?_
  have hb4 : Below w3.heap.size w3 w4 := by rw [hw4]; exact below_alloc _ _
  have hO4 : BudCell w4 w3.heap.size P A (.slice none 0 0) := by rw [hw4]; exact BudCell.new _ _ _ rfl
  have hz4 : w3.heap.size + 1 ≤ w4.heap.size := by rw [hw4]; simp
  clear hw4 x0 x1 x2 y0 y1 y2 f0 f1 f2 g0 g1
  have HB := Lib.hid (RowOK.times HOK.out.2.1)
  obtain ⟨m1, m2⟩ := HT.out
  have q2 : t.tdiv P = t / P := Int.tdiv_eq_ediv_of_nonneg m1
  have z1 : ¬ P = 0 := by omega
  have z2 : (P == 0) = false := by simp; omega
  have b3 := Int.ediv_nonneg m1 (show 0 ≤ P by omega)
  have b4 := Int.ediv_le_self P m1
  have b5 : t / P * P ≤ t := Int.ediv_mul_le t (by omega)
  have b6 : 0 ≤ t / P * P := Int.mul_nonneg b3 (by omega)
  have v2 : IntKind.i64.wrap (t / P) = t / P := IntWalk.i64_in _ (by omega)
  have v3 : IntKind.i64.wrap (t / P * P) = t / P * P := IntWalk.i64_in _ (by omega)
  go_loopw [7] (fun i wr => ∃ (k : Nat) (v : Value), k ≤ S.length ∧ i = .int .i64 k ∧ BudCell wr w3.heap.size P A v ∧ SpOwn wr (w3.heap.size + 1) v (keepN P t S k) ∧ Below w3.heap.size w3 wr) (fun i _ => S.length - (intOf i).toNat)
  case atStart => exact ⟨0, .slice none 0 0, Nat.zero_le _, rfl, hO4, SpOwn.nil _ _, hb4⟩
  case round =>
    obtain ⟨k, v, hk, rfl, hO, hown, hbr⟩ := hrel
    clear hO4 hb4
    have hStr := HST.out.later hbr
    have x0 := hStr.box.c0
    have x2 := hStr.box.c2
    have HSR := Lib.hid hStr
    have hzr : w3.heap.size < wr.heap.size := blk_lt hO
    have hs1 := hStr.size
    clear hStr
    by_cases hlt : k < S.length
    · obtain ⟨C2, c2, ec, hC, -, -⟩ := HSR.out.own.at_
      injection ec with ec1 ec2 ec3
      subst ec1; subst ec3
      obtain ⟨b, off, rfl, hbl, e0, e1⟩ := hC k hlt
      clear hC
      have HO := Lib.hid hO
      have HW := Lib.hid hown
      clear hO hown
      go_wp2_with fail
      go_quiet (fail)
      by_cases hkp : t / P * P ≤ tS S k
      · have HK := Lib.hid (keepN_yes hlt hkp)
        have hKL := keepN_len P t S k
        obtain ⟨n, hn⟩ : ∃ n, n = (keepN P t S k).length := ⟨_, rfl⟩
        obtain ⟨V, cv, ev, -, -, -⟩ := HW.out.at_
        rw [← hn] at ev hKL
        subst ev
        have HN := Lib.hid hn
        clear hn
        go_wp2_with fail
        refine gen_world fun w5 hw5 => ?_
        have hO5 : BudCell w5 w3.heap.size P A (.slice V n cv) := by rw [hw5]; exact HO.out
        have HW5 := Lib.hid (show SpOwn w5 (w3.heap.size + 1) (.slice V n cv) (keepN P t S k) by rw [hw5]; exact HW.out)
        have o2 := hO5.c2
        have X2 : w5.cell? ⟨w.heap.size, 2, none⟩ = some (.slice (some ⟨b, off, none⟩) S.length c') := by rw [hw5]; exact x2
        have E0 : w5.cell? ⟨b, off + k * 2, none⟩ = some (.int .i64 (tS S k)) := by rw [hw5]; exact e0
        have E1 : w5.cell? ⟨b, off + k * 2 + 1, none⟩ = some (.int .i64 (cS S k)) := by rw [hw5]; exact e1
        have HO5 := Lib.hid hO5
        have hb5 : Below w3.heap.size w3 w5 := by rw [hw5]; exact below_drewN hbr _
        have hz5 : w3.heap.size < w5.heap.size := blk_lt hO5
        have hbl5 : b < w5.heap.size := by rw [hw5]; exact hbl
        clear hw5 x0 x2 e0 e1 HO HW hO5
        have hs5 : w.heap.size < w5.heap.size := by omega
        go_region_law (go_loud (refine step_app_out _ rfl (.tmp 48) (.tmp 54) rfl w3 w5 w3.heap.size w3.heap.size P A (tS S k) (cS S k) (.slice V n cv) n (keepN P t S k) (by simp [Act.eval]) (by simp [Act.eval]) ⟨rfl, rfl, rfl, rfl⟩ HN.out (by omega) HW5.out hb5 HO5.out (Nat.le_refl _) hz5 ?_; intro g6 c6 w6 hown6 hX6 hB6 u2 u3))
        all_goals
          go_wp2
          go_roundw
          case rel =>
            refine ⟨k + 1, .slice (some ⟨_, 0, none⟩) (n + 1) _, by omega, by go_num, hX6.set2 _, ?_, below_set hB6 _ _ (by simp)⟩
            refine SpOwn.set_ ?_ _ _ (by simp)
            rw [HK.out]; exact hown6
          case measure => simp [intOf]; omega
      · have HK := Lib.hid (keepN_no hlt hkp)
        have HO6 := Lib.hid HO.out
        go_wp2_with fail
        go_roundw
        case rel => exact ⟨k + 1, v, by omega, by go_num, HO6.out, by rw [HK.out]; exact HW.out, below_drewN hbr _⟩
        case measure => simp [intOf]; omega
    · have hke : k = S.length := by omega
      have o0 := hO.c0
      have o1 := hO.c1
      have o2 := hO.c2
      have y0 := HSR.out.res.c0
      have y1 := HSR.out.res.c1
      have y2 := HSR.out.res.c2
      have f0 := HSR.out.res.frozen 0
      have f1 := HSR.out.res.frozen 1
      have f2 := HSR.out.res.frozen 2
      have HD := Lib.hid (HSR.out.done2 (hown.mono (show w.heap.size + 2 ≤ w3.heap.size + 1 by omega)))
      obtain ⟨V, cv, ev, -, -, -⟩ := hown.at_
      obtain ⟨n, hn⟩ : ∃ n, n = (keepN P t S k).length := ⟨_, rfl⟩
      rw [← hn] at ev
      subst ev
      have HKE := Lib.hid hke
      clear hO hown hn hke
      go_wp2_with fail
      obtain ⟨d1, d2⟩ := HD.out
      rw [HKE.out, keepN_end] at d2
      exact bodyPost_ret (results_bud2 rfl _ _ (w.heap.size + 1) rfl d1) rfl (SpendP.mk HV.out d2)
end Go.Proofs.Ytmnkgfimdlhhiaa
