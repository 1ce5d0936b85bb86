/-
  BudgetNever: the walk.
-/
import Derived.Test.YtmnkgfimdlhhiaaBudTotalsW
namespace Go.Proofs.Ytmnkgfimdlhhiaa
open Go.RowKit

/-- The loop, under way. -/
structure NLoop (w : World) (D bb g : Nat) (P A : Int) (n : Nat) (tm : Int) (S : List Spd) (v : Value) (cs R : List Int) (wr : World) : Prop where
  n29 : n ≤ 29
  made : Made P A S tm
  tm0 : 0 ≤ tm
  tm1 : tm + 5 * n ≤ 145
  len : S.length + n ≤ 29
  box : BudCell wr bb P A v
  own : SpOwn wr (g + 1) v S
  blk : IntBlk wr g cs
  clen : cs.length = 400
  sums : ∀ q : Nat, q < 400 → nth cs q = sumT (perQ P (q : Int)) S
  dice : DiceAt wr D R
  below : Below w.heap.size w wr
theorem NLoop.next {w wr w' : World} {D bb g : Nat} {P A : Int} {n : Nat} {tm : Int} {S : List Spd} {v : Value} {cs R : List Int} (h : NLoop w D bb g P A (n + 1) tm S v cs R wr) (hD : w.heap.size ≤ D ∧ D < bb ∧ bb < g) {d : Int} (hd : 0 ≤ d ∧ d ≤ 5) {R' : List Int} (hD' : DiceAt w' D R') (hg : wr.grownBy w' (some D)) : NLoop w D bb g P A n (tm + d) S v cs R' w' :=
  ⟨by have := h.n29; omega, h.made.later (by omega), by have := h.tm0; omega, by have := h.tm1; push_cast at this; omega, by have := h.len; omega, h.box.grown hg (by omega), h.own.grown hg (by omega),
    (hg.block g h.blk.lt (fun e => by injection e with e; omega)).trans h.blk, h.clen, h.sums, hD', h.below.grown hg h.below.size (fun j hj => by injection hj with hj; omega)⟩
theorem NLoop.dice2 {w wr w' : World} {D bb g : Nat} {P A : Int} {n : Nat} {tm : Int} {S : List Spd} {v : Value} {cs R : List Int} (h : NLoop w D bb g P A n tm S v cs R wr) (hD : w.heap.size ≤ D ∧ D < bb ∧ bb < g) {R' : List Int} (hD' : DiceAt w' D R') (hg : wr.grownBy w' (some D)) : NLoop w D bb g P A n tm S v cs R' w' :=
  ⟨h.n29, h.made, h.tm0, h.tm1, h.len, h.box.grown hg (by omega), h.own.grown hg (by omega), (hg.block g h.blk.lt (fun e => by injection e with e; omega)).trans h.blk, h.clen, h.sums, hD', h.below.grown hg h.below.size (fun j hj => by injection hj with hj; omega)⟩
theorem NLoop.later {w wr w' : World} {D bb g : Nat} {P A : Int} {n : Nat} {tm : Int} {S : List Spd} {v : Value} {cs R : List Int} (h : NLoop w D bb g P A n tm S v cs R wr) (hb : Below wr.heap.size wr w') : NLoop w D bb g P A n tm S v cs R w' :=
  ⟨h.n29, h.made, h.tm0, h.tm1, h.len, h.box.below hb, h.own.below hb, h.blk.below hb, h.clen, h.sums, h.dice.below hb, h.below.trans (hb.mono h.below.size)⟩
/-- After a spend: the box holds the new budget, the period's sum is greater. -/
theorem NLoop.spent {w wr : World} {D bb g : Nat} {P A : Int} {n : Nat} {tm c : Int} {S : List Spd} {v v' : Value} {cs R : List Int} (h : NLoop w D bb g P A n tm S v cs R wr) (hD : w.heap.size ≤ D ∧ D < bb ∧ bb < g) (hn : S.length + n + 1 ≤ 29) (hc : 1 ≤ c ∧ c ≤ 1073741824) (hu : used P S tm + c ≤ A)
    (hown : SpOwn wr (g + 1) v' (S ++ [(tm, c)])) (k : Nat) (hk : tm / P = (k : Int)) (hk4 : k < 400) :
    NLoop w D bb g P A n tm (S ++ [(tm, c)]) v' (cs.set k (nth cs k + c)) R ((((wr.setCell ⟨bb, 0, none⟩ (.int .i64 P)).setCell ⟨bb, 1, none⟩ (.int .i64 A)).setCell ⟨bb, 2, none⟩ v').setCell ⟨g, k, none⟩ (.int .i64 (nth cs k + c))) := by
  have h0 := h.tm0
  have h1 := h.tm1
  refine ⟨h.n29, h.made.snoc ⟨h0, by omega⟩ hc hu, h0, h1, by simp; omega, ?_, ?_, ?_, by simp [h.clen], fun q hq => ?_, ?_, ?_⟩
  · exact (((h.box.set0 P).set1 A).set2 v').other _ _ (by simp; omega)
  · exact ((((hown.set_ _ _ (by simp; omega)).set_ _ _ (by simp; omega)).set_ _ _ (by simp; omega)).set_ _ _ (by simp))
  · refine IntBlk.set_ ?_ k _
    exact (Below.heap_setCell _ _ _ g (by simp; omega)).trans ((Below.heap_setCell _ _ _ g (by simp; omega)).trans ((Below.heap_setCell _ _ _ g (by simp; omega)).trans h.blk))
  · rw [sumT_snoc, ← h.sums q hq]
    by_cases e : k = q
    · subst e
      rw [nth_set_same _ _ _ (by rw [h.clen]; exact hk4), addT_yes (by unfold perQ; exact decide_eq_true hk)]
    · rw [nth_set_other _ _ _ _ e, addT_no (by unfold perQ; exact decide_eq_false (fun e2 => e (by have := hk.symm.trans e2; omega))), Int.add_zero]
  · exact (((h.dice.setCell _ _ (by simp; omega)).setCell _ _ (by simp; omega)).setCell _ _ (by simp; omega)).setCell _ _ (by simp; omega)
  · exact below_set (below_set (below_set (below_set h.below _ _ (by simp; omega)) _ _ (by simp; omega)) _ _ (by simp; omega)) _ _ (by simp; omega)

set_option maxRecDepth 100000 in
set_option maxHeartbeats 4000000 in
theorem budgetNever_walk (A0 : Option Addr) (L0 : List Int) (c0 : Nat) (w : World)
    (hl0 : L0.length ≤ maxLen) (hI0 : IntsAt w A0 L0) (_ : ∀ n ∈ L0, -9223372036854775808 ≤ n ∧ n ≤ 9223372036854775807) :
    Calls Try.prog 5 #[.slice A0 L0.length c0] w (RetB (.bool true) w) := by
  have hL := light_any A0 L0.length c0 w
  by_cases hlight : (L0.length : Int) ≤ 500
  · rw [decide_eq_true hlight] at hL
    have HLt := Lib.hid hL
    clear hL hlight
    go_enter Try.func5, Try.ntmps5
    go_wp2_with fail
    refine ret_pure HLt.out ?_
    clear HLt
    go_wp2_with fail
    refine (roll_any A0 L0 c0 _ hl0 hI0).mono ?_
    rintro e w1 ⟨D, rfl, hDs, hD, hb1⟩
    have hDl := hD.lt
    clear hI0
    go_wp2_with fail
    refine (next_any D L0 9 _ hD (by omega)).mono ?_
    rintro e w2 ⟨rfl, hD2, hg2⟩
    obtain ⟨m1, m2⟩ := nextV_range L0 9 (by omega)
    generalize nextV L0 9 = x1 at *
    obtain ⟨P, hP⟩ : ∃ P, P = 1 + x1 := ⟨_, rfl⟩
    have hwP : IntKind.i64.wrap (1 + x1) = P := by rw [hP]; exact IntWalk.i64_in _ (by omega)
    have hP1 : 1 ≤ P := by omega
    have hP2 : P ≤ 9 := by omega
    generalize L0.tail = R2 at *
    clear hP m1 m2
    go_wp2_with fail
    refine (next_any D R2 8 _ hD2 (by omega)).mono ?_
    rintro e w3 ⟨rfl, hD3, hg3⟩
    obtain ⟨hA1, hA2⟩ := nextV_range R2 8 (by omega)
    generalize nextV R2 8 = A at *
    have hg13 := grown_trans hg2 hg3
    have hbw3 : Below w.heap.size w w3 := hb1.trans (grown_below hg13 hDs hb1.size)
    have hD3l := hD3.lt
    have hs3 := hbw3.size
    have HD3 := Lib.hid hD3
    generalize R2.tail = R3 at *
    clear hg2 hg3 hg13 hD hD2 hD3 hb1
    go_wp2_with (at_make; refine make_ints rfl _ _ rfl 400 rfl rfl rfl (by omega) ?_; intro w5 hI5 hb5)
    have hbox5 : BudCell w5 w3.heap.size P A (.slice none 0 0) := by
      refine BudCell.below ?_ hb5
      first | exact BudCell.new _ _ _ rfl | exact (((BudCell.new (w := w3) 0 0 (.slice none 0 0) rfl).set0 P).set1 A).set2 _
    have hd5 : DiceAt w5 D R3 := by
      refine DiceAt.below ?_ hb5
      first | exact HD3.out.alloc _ | exact (((HD3.out.alloc _).setCell _ _ (by simp; omega)).setCell _ _ (by simp; omega)).setCell _ _ (by simp; omega)
    have hbw5 : Below w.heap.size w w5 := by
      refine Below.trans ?_ (hb5.mono (by simp; omega))
      refine hbw3.trans ?_
      first | exact (below_alloc _ _).mono hs3 | exact (below_set (below_set (below_set (below_alloc _ _) _ _ (by simp)) _ _ (by simp)) _ _ (by simp)).mono hs3
    have hI5' : IntBlk w5 (w3.heap.size + 1) (List.replicate 400 0) := by simpa using hI5
    obtain ⟨bb, hbb⟩ : ∃ bb, bb = w3.heap.size := ⟨_, rfl⟩
    have hgsz := hI5'.lt
    rw [← hbb] at hbox5 hI5' hD3l hgsz
    have HBX := Lib.hid hbox5
    have HI5 := Lib.hid hI5'
    have HD5 := Lib.hid hd5
    clear hbox5 hI5 hI5' hd5 hb5 HD3 hbw3 hs3
    try rw [← hbb]
    go_wp2_with fail
    try rw [← hbb]
    refine (next_any D R3 30 w5 HD5.out (by omega)).mono ?_
    rintro e w6 ⟨rfl, hD6, hg6⟩
    obtain ⟨n1, n2⟩ := nextV_range R3 30 (by omega)
    generalize nextV R3 30 = nn at *
    obtain ⟨n, rfl⟩ := Int.eq_ofNat_of_zero_le n1
    obtain ⟨g, hg⟩ : ∃ g, g = bb + 1 := ⟨_, rfl⟩
    have hDD : w.heap.size ≤ D ∧ D < bb ∧ bb < g := by omega
    have hrepl : ∀ q : Nat, q < 400 → nth (List.replicate 400 0) q = sumT (perQ P (q : Int)) [] := fun q _ => by rw [nth_replicate]; rfl
    have HN := Lib.hid (show NLoop w D bb g P A n 0 [] (.slice none 0 0) (List.replicate 400 0) R3.tail w6 from
      ⟨by omega, Made.nil P A, by omega, by omega, by simp; omega, HBX.out.grown hg6 (by omega), SpOwn.nil _ _, by rw [hg]; exact (hg6.block (bb + 1) HI5.out.lt (fun e => by injection e with e; omega)).trans HI5.out, by simp, hrepl, hD6, hbw5.grown hg6 hbw5.size (fun j hj => by injection hj with hj; omega)⟩)
    try rw [← hg]
    have HPP := Lib.hid (show 1 ≤ P ∧ P ≤ 1099511627776 by omega)
    have HAA := Lib.hid (show 0 ≤ A ∧ A ≤ 1073741824 by omega)
    clear hrepl hD6 hg6 HBX HI5 HD5 n1 n2 hbw5 hbb hgsz hwP hDl hD3l
    generalize R3.tail = R6 at *
    have z1 : ¬ P = 0 := by omega
    have z2 : (P == 0) = false := by simp; omega
    go_wp2_with fail
    rw [← hg]
    clear hg
    go_loopw [7, 5] (fun n t wr => ∃ (n' : Nat) (tm : Int) (S : List Spd) (v : Value) (cs R' : List Int), n = .int .i64 n' ∧ t = .int .i64 tm ∧ NLoop w D bb g P A n' tm S v cs R' wr) (fun n _ _ => (intOf n).toNat)
    case atStart => exact ⟨n, 0, [], _, _, R6, rfl, rfl, HN.out⟩
    case round =>
      clear HN
      obtain ⟨n, tm, S, v, cs, R', rfl, rfl, hN⟩ := hrel
      have hn29 := hN.n29
      have ht0 := hN.tm0
      have ht1 := hN.tm1
      have hln := hN.len
      obtain ⟨C, c, rfl, -, -, -⟩ := hN.own.at_
      rcases n with _ | n
      · have HN := Lib.hid hN
        clear hN
        go_wp2_with fail
        refine ret_below (awake_true _) fun w8 hb8 => ?_
        have hN8 := HN.out.later hb8
        obtain ⟨Cn, cn, ec, hCn, -, -⟩ := hN8.own.at_
        injection ec with ec1 ec2 ec3
        subst ec1; subst ec3
        have hck := check_any P A C S c w8 hCn (by omega)
        rw [budE_ok (hN8.made.ok HPP.out HAA.out (by omega))] at hck
        have x0 := hN8.box.c0
        have x1 := hN8.box.c1
        have x2 := hN8.box.c2
        have HCK := Lib.hid hck
        have hbw8 := hN8.below
        clear hN8 hCn hck HN
        go_wp2_with fail
        refine ret_below HCK.out fun w9 hb9 => ?_
        go_wp2
        go_ret
        exact RetB.bool rfl (hbw8.trans (hb9.mono hbw8.size))
      · have HN := Lib.hid hN
        have hdc := hN.dice
        clear hN
        go_wp2_with fail
        refine (next_any D R' 6 _ hdc (by omega)).mono ?_
        rintro e w7 ⟨rfl, hD7, hg7⟩
        obtain ⟨m1, m2⟩ := nextV_range R' 6 (by omega)
        generalize nextV R' 6 = d at *
        have hN7 := HN.out.next hDD (d := d) ⟨m1, by omega⟩ hD7 hg7
        generalize R'.tail = R7 at *
        obtain ⟨tn, htn⟩ : ∃ tn, tn = tm + d := ⟨_, rfl⟩
        have ht0' : 0 ≤ tn := by omega
        have ht1' : tn ≤ 145 := by omega
        rw [← htn] at hN7
        have hwr : IntKind.i64.wrap (tm + d) = tn := by rw [htn]; exact IntWalk.i64_in _ (by omega)
        have HN7 := Lib.hid hN7
        have hd7 := hN7.dice
        clear hN7 HN hdc hD7 hg7 htn
        go_wp2_with fail
        refine (next_any D R7 4 _ hd7 (by omega)).mono ?_
        rintro e w8 ⟨rfl, hD8, hg8⟩
        obtain ⟨m3, m4⟩ := nextV_range R7 4 (by omega)
        generalize nextV R7 4 = d2 at *
        have HN8 := Lib.hid (HN7.out.dice2 hDD hD8 hg8)
        generalize R7.tail = R8 at *
        obtain ⟨cc, hcc⟩ : ∃ cc, cc = 1 + d2 := ⟨_, rfl⟩
        have hwc : IntKind.i64.wrap (1 + d2) = cc := by rw [hcc]; exact IntWalk.i64_in _ (by omega)
        have hcc1 : 1 ≤ cc := by omega
        have hcc2 : cc ≤ 4 := by omega
        clear hcc m3 m4 hd7 hD8 hg8 HN7
        have x0 := HN8.out.box.c0
        have x1 := HN8.out.box.c1
        have x2 := HN8.out.box.c2
        have hg8l := HN8.out.blk.lt
        obtain ⟨Cn, cn, ec, hC8, -, -⟩ := HN8.out.own.at_
        injection ec with ec1 ec2 ec3
        subst ec1; subst ec3
        have HOK := Lib.hid (HN8.out.made.ok HPP.out HAA.out (by have := HN8.out.len; omega))
        have HTO := Lib.hid (show TimeOK S tn from ⟨ht0', by omega, fun h0 => HN8.out.made.last _ (by omega)⟩)
        have HTI := Lib.hid (RowOK.times HOK.out.2.1)
        have HCH := Lib.hid (RowOK.cheap HOK.out.2.1)
        have hln8 := HN8.out.len
        obtain ⟨kk, hkk⟩ : ∃ kk : Nat, tn / P = (kk : Int) := ⟨(tn / P).toNat, by rw [Int.toNat_of_nonneg (Int.ediv_nonneg ht0' (by omega))]⟩
        have hkk4 : kk < 400 := by have := Int.ediv_le_self P ht0'; omega
        have u1 : tn.tdiv P = (kk : Int) := by rw [← hkk]; exact Int.tdiv_eq_ediv_of_nonneg ht0'
        have v1 : IntKind.i64.wrap (kk : Int) = (kk : Int) := IntWalk.i64_in _ (by omega)
        have hnu : nth cs kk = used P S tn := by rw [HN8.out.sums kk hkk4, ← hkk, perQ_eq]; rfl
        have hur := sumK_range HCH.out (perT P tn) S.length (Nat.le_refl _)
        rw [show sumK (perT P tn) S S.length = used P S tn from rfl, ← hnu] at hur
        have hlv : leftV P A S tn = A - nth cs kk := by rw [leftV_pos (by omega), hnu]
        have n1 : (leftV P A S tn != A - nth cs kk) = false := by rw [hlv]; simp
        have HLV := Lib.hid hlv
        have HNU := Lib.hid hnu
        have HKK := Lib.hid hkk
        have HSP := Lib.hid (spend_any P A C S c tn cc w8 hC8 HN8.out.own.spot HN8.out.own.nilcap (by omega) (by omega))
        clear hC8 hlv hnu hkk
        by_cases hu : nth cs kk + cc ≤ A
        · have HU := Lib.hid (show used P S tn + cc ≤ A by rw [← HNU.out]; exact hu)
          have HE := Lib.hid (spE_good (t := tn) (x := cc) HOK.out HTO.out (by omega) (by rw [HLV.out]; omega) (by omega))
          have HS' := Lib.hid (spS_ok HE.out).2
          have hsp := HSP.out
          rw [← HE.out, ← HS'.out] at hsp
          have HSP2 := Lib.hid hsp
          clear hsp HSP
          go_wp2_with fail
          refine HSP2.out.mono ?_
          intro e w9 hr
          obtain ⟨v9, rfl, hown9, hb9⟩ := hr
          obtain ⟨C9, c9, ev, -, -, -⟩ := hown9.at_
          rw [show (S ++ [(tn, cc)]).length = S.length + 1 by simp] at ev
          subst ev
          have hN9 := HN8.out.later hb9
          have HN9 := Lib.hid hN9
          clear hN9 x0 x1 x2
          have x0 := HN9.out.box.c0
          have x1 := HN9.out.box.c1
          have x2 := HN9.out.box.c2
          have sx := blk_lt HN9.out.box
          have sg := HN9.out.blk.lt
          go_wp2_with fail
          refine gen_world fun w10 hw10 => ?_
          have hb10 : Below w9.heap.size w9 w10 := by rw [hw10]; exact below_alloc _ _
          have hZ : BudCell w10 w9.heap.size P A (.slice C9 (S.length + 1) c9) := by rw [hw10]; exact BudCell.new _ _ _ rfl
          have HZ := Lib.hid hZ
          have HOW := Lib.hid ((hown9.below hb10).mono (show g + 1 ≤ w8.heap.size by omega))
          clear hZ hown9
          have HN10 := Lib.hid (HN9.out.later hb10)
          have sx10 := blk_lt HN10.out.box
          have sg10 := HN10.out.blk.lt
          clear hw10 x0 x1 x2 sx sg
          have y0 := HN10.out.box.c0
          have y1 := HN10.out.box.c1
          have y2 := HN10.out.box.c2
          have yg := HN10.out.blk.cell kk (by rw [HN10.out.clen]; exact hkk4)
          obtain ⟨Cn, cn, ec, hCn, -, -⟩ := HN10.out.own.at_
          injection ec with ec1 ec2 ec3
          subst ec1; subst ec3
          have HCn := Lib.hid hCn
          clear hCn
          refine wp_region_grew (by kernel_rfl) (by kernel_rfl) ?_
          repeat (go_big_quiet_step ((first
            | (go_at_call 20; exact grew_of (left_any P A C S c tn _ HPP.out HAA.out (HCn.out.below (grewW.below _ _)) HTI.out HCH.out (by omega) (by omega))))))
          refine wpQuiet_nil ?_
          intro w11 hb11
          have HN11 := Lib.hid (HN10.out.later hb11)
          have z0 := (HZ.out.below hb11).c0
          have z1 := (HZ.out.below hb11).c1
          have z2 := (HZ.out.below hb11).c2
          have HOW11 := Lib.hid (HOW.out.below hb11)
          clear y0 y1 y2 yg
          have y0 := HN11.out.box.c0
          have y1 := HN11.out.box.c1
          have y2 := HN11.out.box.c2
          have f0 := HN11.out.box.frozen 0
          have f1 := HN11.out.box.frozen 1
          have f2 := HN11.out.box.frozen 2
          have yg := HN11.out.blk.cell kk (by rw [HN11.out.clen]; exact hkk4)
          have fg := HN11.out.blk.frozen kk
          have hgb : ¬ g = bb := by omega
          have hbg : ¬ bb = g := by omega
          go_wp2_with fail
          go_roundw
          case rel => exact ⟨n, tn, S ++ [(tn, cc)], _, cs.set kk (nth cs kk + cc), R8, by go_num, rfl, HN11.out.spent hDD (by omega) ⟨hcc1, by omega⟩ HU.out HOW11.out kk HKK.out hkk4⟩
          case measure => simp [intOf]
        · have HE := Lib.hid (spE_left (t := tn) (x := cc) HOK.out HTO.out (by omega) (by rw [HLV.out]; omega))
          have hu2 : decide (nth cs kk + cc ≤ A) = false := decide_eq_false hu
          have hu3 : A < nth cs kk + cc := by omega
          have HS' := Lib.hid (spS_err HE.out (by omega)).2
          have hsp := HSP.out
          rw [← HE.out, ← HS'.out] at hsp
          have HSP2 := Lib.hid hsp
          clear hsp HSP
          go_wp2_with fail
          refine HSP2.out.mono ?_
          intro e w9 hr
          obtain ⟨C9, c9, rfl, -, hb9⟩ := hr.open_
          have hN9 := HN8.out.later hb9
          have HN9 := Lib.hid hN9
          clear hN9 hr x0 x1 x2
          have x0 := HN9.out.box.c0
          have x1 := HN9.out.box.c1
          have x2 := HN9.out.box.c2
          have sx := blk_lt HN9.out.box
          have sg := HN9.out.blk.lt
          go_wp2_with fail
          refine gen_world fun w10 hw10 => ?_
          have hb10 : Below w9.heap.size w9 w10 := by rw [hw10]; exact below_alloc _ _
          have HN10 := Lib.hid (HN9.out.later hb10)
          have sx10 := blk_lt HN10.out.box
          have sg10 := HN10.out.blk.lt
          clear hw10 x0 x1 x2 sx sg
          have y0 := HN10.out.box.c0
          have y1 := HN10.out.box.c1
          have y2 := HN10.out.box.c2
          have yg := HN10.out.blk.cell kk (by rw [HN10.out.clen]; exact hkk4)
          obtain ⟨Cn, cn, ec, hCn, -, -⟩ := HN10.out.own.at_
          injection ec with ec1 ec2 ec3
          subst ec1; subst ec3
          have HCn := Lib.hid hCn
          clear hCn
          refine wp_region_grew (by kernel_rfl) (by kernel_rfl) ?_
          repeat (go_big_quiet_step ((first
            | (go_at_call 20; exact grew_of (left_any P A C S c tn _ HPP.out HAA.out (HCn.out.below (grewW.below _ _)) HTI.out HCH.out (by omega) (by omega))))))
          refine wpQuiet_nil ?_
          intro w11 hb11
          have HN11 := Lib.hid (HN10.out.later hb11)
          go_wp2_with fail
          go_roundw
          case rel => exact ⟨n, tn, S, _, cs, R8, by go_num, rfl, HN11.out⟩
          case measure => simp [intOf]
  · have hL' := hL
    rw [decide_eq_false hlight] at hL
    have HLt := Lib.hid hL
    clear hL hL'
    go_enter Try.func5, Try.ntmps5
    go_wp2_with fail
    refine ret_pure HLt.out ?_
    go_wp2_with fail
    refine ret_below (awake_true _) fun w1 hb => ?_
    go_wp2
    go_ret
    exact RetB.bool rfl hb
end Go.Proofs.Ytmnkgfimdlhhiaa
