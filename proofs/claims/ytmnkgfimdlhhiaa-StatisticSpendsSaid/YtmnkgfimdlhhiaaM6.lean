/-
  StatisticSpends: the walk.
  A slice of numbers that came in reads as a list.
  Conditions: those that each theorem names.
-/
import Derived.Test.YtmnkgfimdlhhiaaM5
import Derived.BigQuiet
set_option linter.unusedVariables false
set_option linter.unusedSimpArgs false
namespace Go.Proofs.Ytmnkgfimdlhhiaa
open Go.RowKit

theorem enter_publish (args : Array Value) (w : World) : (callFunc 26 args).run Try.prog w = .ok (.enter 26 args) w :=
  Go.MuLone.run_callFunc_enter Try.func26 (by kernel_rfl) rfl args w
set_option maxRecDepth 100000 in
set_option maxHeartbeats 8000000 in
theorem statisticSpends_walk (A0 : Option Addr) (L0 : List Int) (c0 : Nat) (w : World) (hl0 : L0.length ≤ maxLen) (hI0 : IntsAt w A0 L0) (_ : ∀ n ∈ L0, -9223372036854775808 ≤ n ∧ n ≤ 9223372036854775807) :
    Calls Try.prog 8 #[.slice A0 L0.length c0] w (RetB (.bool true) w) := by
  have hL := light_any A0 L0.length c0 w
  by_cases hlight : (L0.length : Int) ≤ 500
  case neg =>
    rw [decide_eq_false hlight] at hL
    have HLt := Lib.hid hL
    clear hL hlight
    go_enter Try.func8, Try.ntmps8
    go_wp2_with fail
    refine ret_pure HLt.out ?_
    go_wp2_with fail
    refine ret_below (awake39 _) fun w1 hb1 => ?_
    go_wp2_with fail
    go_ret
    exact RetB.bool rfl hb1
  case pos =>
    rw [decide_eq_true hlight] at hL
    have HLt := Lib.hid hL
    clear hL hlight
    go_enter Try.func8, Try.ntmps8
    go_wp2_with fail
    refine ret_pure HLt.out ?_
    clear HLt
    go_wp2_with fail
    refine (roll_any A0 L0 c0 _ hl0 hI0).mono ?_
    rintro e w1 ⟨D, rfl, hDs, hD, hb1⟩
    clear hI0 hl0
    have hDl1 := hD.lt
    obtain ⟨nb, hnb⟩ : ∃ nb, nb = w1.heap.size := ⟨_, rfl⟩
    go_wp2_with fail
    refine gen_calls fun W hW => ?_
    have hN : NzCell W nb 3 1 2 := by rw [hW]; exact NzCell.new _ _ _ hnb
    have hDW : DiceAt W D L0 := by rw [hW]; exact hD.alloc _
    have hbW : Below w.heap.size w W := by rw [hW]; exact hb1.alloc hb1.size _
    have hDn : D < nb := by omega
    have hwn : w.heap.size ≤ nb := by omega
    clear hW hD hb1
    rw [← hnb]
    clear hnb hDl1
    refine (next_any D L0 6 _ hDW (by omega)).mono ?_
    rintro e w2 ⟨rfl, hD2, hg2⟩
    obtain ⟨x1, x2⟩ := nextV_range L0 6 (by omega)
    generalize nextV L0 6 = x at *
    generalize L0.tail = R2 at *
    replace hN := hN.grown hg2 (by omega)
    have hb2 := grown_belowE hbW hg2 hDs
    clear hg2 hDW hbW
    go_wp2_with fail
    refine (next_any D R2 4 _ hD2 (by omega)).mono ?_
    rintro e w3 ⟨rfl, hD3, hg3⟩
    obtain ⟨y1, y2⟩ := nextV_range R2 4 (by omega)
    generalize nextV R2 4 = Am at *
    generalize R2.tail = R3 at *
    replace hN := hN.grown hg3 (by omega)
    have hb3 := grown_belowE hb2 hg3 hDs
    clear hg3 hD2 hb2
    obtain ⟨P, hP⟩ : ∃ P, P = 1 + x := ⟨_, rfl⟩
    obtain ⟨bb, hbb⟩ : ∃ bb, bb = w3.heap.size := ⟨_, rfl⟩
    have hnl := hN.lt
    go_wp2_with (refine make_ints rfl (.const (.int .i64 200)) (.const (.int .i64 200)) rfl (m := 200) 200 rfl rfl rfl (by omega) ?_; intro w4 hI4 hb4)
    obtain ⟨gc, hgc⟩ : ∃ gc, gc = (w3.alloc (.cells #[.int .i64 (1 + x), .int .i64 Am, .slice none 0 0] 24)).heap.size := ⟨_, rfl⟩
    have hX4 : BudCell w4 bb P Am (.slice none 0 0) := by rw [hP]; exact (BudCell.new _ _ _ hbb).below (hb4.mono (Nat.le_refl _))
    have hgc2 : w3.heap.size + 1 = gc := by rw [hgc]; simp
    rw [hgc2, ← hbb]
    rw [← hgc] at hI4 hb4
    have hgb : bb < gc := by rw [hgc, hbb]; simp
    have hN4 : NzCell w4 nb 3 1 2 := (hN.alloc _).keptB hb4 (by omega)
    have hD4 : DiceAt w4 D R3 := (hD3.alloc (.cells #[.int .i64 (1 + x), .int .i64 Am, .slice none 0 0] 24)).keep (fun k hk => hb4.block k (by omega))
    have hbw4 : Below w.heap.size w w4 := (hb3.alloc hb3.size (.cells #[.int .i64 (1 + x), .int .i64 Am, .slice none 0 0] 24)).trans (hb4.mono (by rw [hgc]; have := hb3.size; simp; omega))
    have hnbb : nb < bb := by omega
    have hgs := hI4.lt
    have HX4 := Lib.hid hX4
    have HI4 := Lib.hid hI4
    clear hI4 hb4 hN hD3 hb3 hX4 hgc hbb hgc2
    go_wp2_with fail
    refine (next_any D R3 20 _ hD4 (by omega)).mono ?_
    rintro e w5 ⟨rfl, hD5, hg5⟩
    obtain ⟨k1, k2⟩ := nextV_range R3 20 (by omega)
    obtain ⟨k, hk⟩ : ∃ k : Nat, nextV R3 20 = (k : Int) := ⟨(nextV R3 20).toNat, by omega⟩
    rw [hk] at k1 k2 ⊢
    generalize R3.tail = R5 at *
    have HN5 := Lib.hid (hN4.grown hg5 (by omega))
    have HX5 := Lib.hid (HX4.out.grown hg5 (by omega))
    have HI5 := Lib.hid (show IntBlk w5 gc _ from (hg5.block gc hgs (fun e => by injection e with e; omega)).trans HI4.out)
    have hb5 := grown_belowE hbw4 hg5 hDs
    have HS0 := Lib.hid (show SpI P Am 0 k [] (List.replicate 200 0) from ⟨by omega, by omega, by decide, by omega, by simp; omega, Made.nil _ _, CntOK.nil _⟩)
    have HD5 := Lib.hid hD5
    have hPx : 1 ≤ P ∧ P ≤ 6 := by omega
    rw [← hP]
    clear HX4 HI4 hg5 hN4 hD4 hbw4 hgs hD5 hk hP x1 x2
    go_wp2_with fail
    go_loopw [8, 7] (fun n t wr => ∃ (k : Nat) (tm : Int) (S : List Spd) (cs : List Int) (Q : Option Addr) (cq : Nat) (R' : List Int), n = .int .i64 k ∧ t = .int .i64 tm ∧ SpI P Am tm k S cs ∧ NzCell wr nb 3 1 2 ∧ BudCell wr bb P Am (.slice Q S.length cq) ∧ SpOwn wr (gc + 1) (.slice Q S.length cq) S ∧ IntBlk wr gc cs ∧ DiceAt wr D R' ∧ Below w.heap.size w wr) (fun n _ _ => (intOf n).toNat)
    case atStart => exact ⟨k, 0, [], _, none, 0, R5, rfl, rfl, HS0.out, HN5.out, HX5.out, SpOwn.nil _ _, HI5.out, HD5.out, hb5⟩
    case round =>
      clear HN5 HX5 HI5 HD5 HS0 hb5 k1 k2
      obtain ⟨k, tm, S, cs, Q, cq, R', rfl, rfl, hSI, hN, hX, hO, hB, hDr, hbr⟩ := hrel
      rcases k with _ | k
      · clear hSI hN hX hO hB hDr
        rw [show ((0 : Nat) : Int) = 0 from rfl]
        go_wp2_with fail
        refine ret_below (awake39 _) fun wz hbz => ?_
        go_wp2_with fail
        go_ret
        exact RetB.bool rfl (hbr.trans (hbz.mono hbr.size))
      · have HSI := Lib.hid hSI
        have HN := Lib.hid hN
        have HX := Lib.hid hX
        have HO := Lib.hid hO
        have HB := Lib.hid hB
        have hl20 := hSI.len
        have g1 := hSI.tm0
        have g2 := hSI.tm1
        clear hSI hN hX hO hB
        go_wp2_with fail
        refine (next_any D R' 3 _ hDr (by omega)).mono ?_
        rintro e w6 ⟨rfl, hD6, hg6⟩
        obtain ⟨z1, z2⟩ := nextV_range R' 3 (by omega)
        generalize nextV R' 3 = z at *
        generalize R'.tail = R6 at *
        have hb6 := grown_belowE hbr hg6 hDs
        have HN6 := Lib.hid (HN.out.grown hg6 (by omega))
        have HX6 := Lib.hid (HX.out.grown hg6 (by omega))
        have HO6 := Lib.hid (HO.out.grown hg6 (by omega))
        have HB6 := Lib.hid (show IntBlk w6 gc cs from (hg6.block gc HB.out.lt (fun e => by injection e with e; omega)).trans HB.out)
        have v1 : IntKind.i64.wrap (tm + z) = tm + z := IntWalk.i64_in _ (by omega)
        have HT := Lib.hid (HSI.out.time (tm' := tm + z) (by omega) (by omega))
        have hgl6 := HB6.out.lt
        clear HN HX HO HB hg6 hDr HSI hbr
        go_wp2_with fail
        obtain ⟨tn, htn⟩ : ∃ tn, tn = tm + z := ⟨_, rfl⟩
        rw [← htn] at HT ⊢
        clear htn
        refine (contents_any D R6 6 w6 hD6 (by omega)).mono ?_
        rintro e w7 ⟨v7, L, R7, rfl, hown7, hdep, hlen, hD7, hg7⟩
        obtain ⟨U, uc, rfl, hU7, hUn, hUb, -, -⟩ := hown7.at_
        have HN7 := Lib.hid (HN6.out.grown hg7 (by omega))
        have HX7 := Lib.hid (HX6.out.grown hg7 (by omega))
        have HO7 := Lib.hid (HO6.out.grown hg7 (by omega))
        have HB7 := Lib.hid (show IntBlk w7 gc cs from (hg7.block gc HB6.out.lt (fun e => by injection e with e; omega)).trans HB6.out)
        have hb7 := grown_belowE hb6 hg7 hDs
        have HU7 := Lib.hid hU7
        have HD7 := Lib.hid hD7
        have hs7 := hg7.size
        have HUB := Lib.hid hUb
        clear hown7 hdep hD7 hg7 hU7 hUn hUb HN6 HX6 HO6 HB6 hb6 hD6 v1 z1 z2 g1 g2
        go_wp2_with fail
        have hD7l : D < w7.heap.size := HD7.out.lt
        have hnb7 : nb < w7.heap.size := HN7.out.lt
        have hbb7 : bb < w7.heap.size := blk_lt HX7.out
        have HQs := Lib.hid HO7.out.spotE
        have HQn := Lib.hid HO7.out.nilcapE
        refine wp_region_J2 (R13 w7 D P Am tn U L uc Q S cq) (by kernel_rfl) (by kernel_rfl) (by kernel_rfl) ?_ ?_ ?_
        case refine_1 => exact fun V => R13.start ⟨R7, HD7.out⟩ V
        case refine_2 =>
          refine JSteps.cons (fun V L a w hLi hpre hR hI K hK => ?_) ?_
          ·
            have e := (hR.old 4 (by kernel_rfl)).trans (show _ = Value.pointer (some ⟨nb, 0, none⟩) from rfl)
            exact J_load rfl _ (.tmp 4) rfl (by rw [e]; exact ld_noise (HN7.out.kep hI.kp (by omega))) (hK _ _ { hI with v0 := fun _ => rfl })
          refine JSteps.cons (fun V L a w hLi hpre hR hI K hK => ?_) ?_
          ·
            have e := (hR.old 5 (by kernel_rfl)).trans (show _ = Value.pointer (some ⟨bb, 0, none⟩) from rfl)
            exact J_load rfl _ (.tmp 5) rfl (by rw [e]; exact ld_bud (HX7.out.kep hI.kp (by omega))) (hK _ _ { hI with v1 := fun _ => rfl })
          refine JSteps.cons (fun V L a w hLi hpre hR hI K hK => ?_) ?_
          ·
            have e := (hR.old 7 (by kernel_rfl)).trans (show _ = Value.int .i64 tn from rfl)
            exact J_move rfl (.tmp 7) rfl (hK _ _ { hI with v2 := fun _ => e })
          refine JSteps.cons (fun V L' a w hLi hpre hR hI K hK => ?_) ?_
          ·
            have e := (hR.old 9 (by kernel_rfl)).trans (show _ = Value.slice U L.length uc from rfl)
            exact J_move rfl (.tmp 9) rfl (hK _ _ { hI with v3 := fun _ => e })
          refine JSteps.cons (fun V L a w hLi hpre hR hI K hK => ?_) ?_
          ·
            exact J_lit2 rfl (.const (.int .i64 0)) (.const (.int .i64 2)) rfl rfl rfl (hK _ _ { hI.move (kep_alloc w _) (dice_alloc hI.dice _) hD7l with v4 := fun _ => ⟨_, rfl, hI.kp.size, fun _ => lit_ints w [0, 2]⟩ })
          refine JSteps.cons (fun V L' a w hLi hpre hR hI K hK => ?_) ?_
          ·
            have e := (hR.old 3 (by kernel_rfl)).trans (show _ = Value.pointer (some ⟨D, 0, none⟩) from rfl)
            exact J_move rfl (.tmp 3) rfl (hK _ _ { hI with v5 := fun _ => e })
          refine JSteps.cons (fun V L a w hLi hpre hR hI K hK => ?_) ?_
          ·
            have p5 : L 5 = true := hpre 5 (List.mem_of_elem_eq_true (by kernel_rfl))
            obtain ⟨R, hRd⟩ := hI.dice
            refine step_nextE w rfl (.tmp 47) (.const (.int .i64 24)) 24 rfl ((hR.ev 5 rfl rfl p5).trans (hI.v5 p5)) rfl hRd (by omega) (by omega) ?_
            intro k w' hk hd hg
            exact hK _ _ { hI.move (kep_grown hg) ⟨_, hd⟩ hD7l with v6 := fun _ => ⟨k, hk, rfl⟩ }
          refine JSteps.cons (fun V L' a w hLi hpre hR hI K hK => ?_) ?_
          ·
            have e := (hR.old 3 (by kernel_rfl)).trans (show _ = Value.pointer (some ⟨D, 0, none⟩) from rfl)
            exact J_move rfl (.tmp 3) rfl (hK _ _ { hI with v7 := fun _ => e })
          refine JSteps.cons (fun V L a w hLi hpre hR hI K hK => ?_) ?_
          ·
            have p7 : L 7 = true := hpre 7 (List.mem_of_elem_eq_true (by kernel_rfl))
            obtain ⟨R, hRd⟩ := hI.dice
            refine step_nextE w rfl (.tmp 49) (.const (.int .i64 24)) 24 rfl ((hR.ev 7 rfl rfl p7).trans (hI.v7 p7)) rfl hRd (by omega) (by omega) ?_
            intro k w' hk hd hg
            exact hK _ _ { hI.move (kep_grown hg) ⟨_, hd⟩ hD7l with v8 := fun _ => ⟨k, hk, rfl⟩ }
          refine JSteps.cons (fun V L a w hLi hpre hR hI K hK => ?_) ?_
          ·
            have p6 : L 6 = true := hpre 6 (List.mem_of_elem_eq_true (by kernel_rfl))
            have p8 : L 8 = true := hpre 8 (List.mem_of_elem_eq_true (by kernel_rfl))
            obtain ⟨x, hx, ex⟩ := hI.v6 p6
            obtain ⟨y, hy, ey⟩ := hI.v8 p8
            exact J_lit2 rfl (.tmp 48) (.tmp 50) rfl ((hR.ev 6 rfl rfl p6).trans ex) ((hR.ev 8 rfl rfl p8).trans ey) (hK _ _ { hI.move (kep_alloc w _) (dice_alloc hI.dice _) hD7l with v9 := fun _ => ⟨_, _, _, rfl, ⟨by omega, hx⟩, ⟨by omega, hy⟩, hI.kp.size, fun _ => lit_ints w [(x : Int), (y : Int)]⟩ })
          refine JSteps.cons (fun V Ld a w hLi hpre hR hI K hK => ?_) ?_
          ·
            have p0 : Ld 0 = true := hpre 0 (List.mem_of_elem_eq_true (by kernel_rfl))
            have p1 : Ld 1 = true := hpre 1 (List.mem_of_elem_eq_true (by kernel_rfl))
            have p2 : Ld 2 = true := hpre 2 (List.mem_of_elem_eq_true (by kernel_rfl))
            have p3 : Ld 3 = true := hpre 3 (List.mem_of_elem_eq_true (by kernel_rfl))
            have p4 : Ld 4 = true := hpre 4 (List.mem_of_elem_eq_true (by kernel_rfl))
            have p9 : Ld 9 = true := hpre 9 (List.mem_of_elem_eq_true (by kernel_rfl))
            obtain ⟨g, e4, hg, hi4⟩ := hI.v4 p4
            obtain ⟨g9, x, y, e9, hx, hy, hg9, hi9⟩ := hI.v9 p9
            have f0 := (hR.ev 0 rfl rfl p0).trans (hI.v0 p0)
            have f1 := (hR.ev 1 rfl rfl p1).trans (hI.v1 p1)
            have f2 := (hR.ev 2 rfl rfl p2).trans (hI.v2 p2)
            have f3 := (hR.ev 3 rfl rfl p3).trans (hI.v3 p3)
            have f4 := (hR.ev 4 rfl rfl p4).trans e4
            have f9 := (hR.ev 9 rfl rfl p9).trans e9
            have hSp : SpOwn w (gc + 1) (.slice Q S.length cq) S := own_kep HO7.out hI.kp (fun b eb => by have := (own_ge HO7.out b eb).1; show ¬ b = D; omega)
            have hUw : ElAt elC w U L := HU7.out.kep hI.kp (fun a e => by have := (HUB.out a e).2.2; show ¬ a.block = D; omega)
            obtain ⟨Q1, cq1, ev, hSA, -⟩ := hSp.at_
            injection ev with ev1 ev2 ev3
            subst ev1; subst ev3
            refine J_call rfl _ _ _ rfl enter_publish (by simp only [List.map_toArray, List.map_cons, List.map_nil, f0, f1, f2, f3, f4, f9]) (publish2 P Am Q S cq tn U L uc (some ⟨g, 0, none⟩) (some ⟨g9, 0, none⟩) x y w hx hy hSA HQs.out HQn.out (by have := HT.out.len; omega) hUw (by omega) (hi4 hLi) (hi9 hLi) k cs HT.out) ?_
            rintro e w' hr
            rcases hr with ⟨hu, hr⟩ | ⟨hu, hr⟩
            · obtain ⟨_, _, _, _, rfl, -⟩ := hr.open_
              exact ⟨_, rfl, hK _ _ (hI.o10 hLi _ w' x y 0 tn _ _ hx hy (.inl ⟨hu, rfl, rfl, rfl, rfl⟩) hr hD7l)⟩
            · obtain ⟨_, _, _, _, rfl, -⟩ := hr.open_
              exact ⟨_, rfl, hK _ _ (hI.o10 hLi _ w' x y 56 0 _ _ hx hy (.inr ⟨hu, rfl, rfl, rfl, rfl⟩) hr hD7l)⟩
          refine JSteps.cons (fun V L a w hLi hpre hR hI K hK => ?_) ?_
          ·
            have p : L 10 = true := hpre 10 (List.mem_of_elem_eq_true (by kernel_rfl))
            exact J_move rfl (.tmp 52) rfl (hK _ _ { hI with v11 := fun _ => ⟨p, hR.ev 10 rfl rfl p⟩ })
          refine JSteps.cons (fun V L a w hLi hpre hR hI K hK => ?_) ?_
          ·
            have p : L 11 = true := hpre 11 (List.mem_of_elem_eq_true (by kernel_rfl))
            obtain ⟨p10, e11⟩ := hI.v11 p
            obtain ⟨_, _, _, _, _, _, _, _, _, _, e10, -⟩ := hI.v10 p10
            exact J_extract rfl (.tmp 41) 0 rfl (((hR.ev 11 rfl rfl p).trans e11).trans e10) rfl (hK _ _ { hI with
              v12 := fun _ => ⟨p10, _, e10, rfl⟩
              v15 := fun e => by
                obtain ⟨a, q1, q2, q3, q4, q5⟩ := hI.v15 e
                exact ⟨a, q1, q2, q3, q4, fun e => nf hLi (q5 e).1⟩ })
          refine JSteps.cons (fun V L a w hLi hpre hR hI K hK => ?_) ?_
          ·
            have p : L 11 = true := hpre 11 (List.mem_of_elem_eq_true (by kernel_rfl))
            obtain ⟨p10, e11⟩ := hI.v11 p
            obtain ⟨_, _, _, _, _, _, _, _, _, _, e10, -⟩ := hI.v10 p10
            exact J_extract rfl (.tmp 41) 1 rfl (((hR.ev 11 rfl rfl p).trans e11).trans e10) rfl (hK _ _ { hI with
              v13 := fun _ => ⟨p10, _, e10, rfl⟩
              v16 := fun e => by
                obtain ⟨a, q1, q2, q3, q4, q5⟩ := hI.v16 e
                exact ⟨a, q1, q2, q3, q4, fun e => nf hLi (q5 e).1⟩ })
          refine JSteps.cons (fun V L a w hLi hpre hR hI K hK => ?_) ?_
          ·
            have p : L 11 = true := hpre 11 (List.mem_of_elem_eq_true (by kernel_rfl))
            obtain ⟨p10, e11⟩ := hI.v11 p
            obtain ⟨_, _, _, _, _, _, _, _, _, _, e10, -⟩ := hI.v10 p10
            exact J_extract rfl (.tmp 41) 2 rfl (((hR.ev 11 rfl rfl p).trans e11).trans e10) rfl (hK _ _ { hI with
              v14 := fun _ => ⟨p10, _, e10, rfl⟩
              v19 := fun e => nf hLi (hI.v19 e).1 })
          refine JSteps.cons (fun V L a w hLi hpre hR hI K hK => ?_) ?_
          ·
            exact J_alloc rfl _ rfl (al_tab w) (hK _ _ (hI.o15 hLi hD7l))
          refine JSteps.cons (fun V L a w hLi hpre hR hI K hK => ?_) ?_
          ·
            exact J_alloc rfl _ rfl (al_bud w) (hK _ _ (hI.o16 hLi hD7l))
          refine JSteps.cons (fun V L a w hLi hpre hR hI K hK => ?_) ?_
          ·
            have p15 : L 15 = true := hpre 15 (List.mem_of_elem_eq_true (by kernel_rfl))
            have p12 : L 12 = true := hpre 12 (List.mem_of_elem_eq_true (by kernel_rfl))
            obtain ⟨w', hs, hI'⟩ := hI.o17 p12 p15 hD7l
            exact J_store rfl _ (.tmp 10) (.tmp 53) rfl (by rw [hR.ev 15 rfl rfl p15, hR.ev 12 rfl rfl p12]; exact hs) (hK _ _ hI')
          refine JSteps.cons (fun V L a w hLi hpre hR hI K hK => ?_) ?_
          ·
            have p16 : L 16 = true := hpre 16 (List.mem_of_elem_eq_true (by kernel_rfl))
            have p13 : L 13 = true := hpre 13 (List.mem_of_elem_eq_true (by kernel_rfl))
            obtain ⟨w', hs, hI'⟩ := hI.o18 p13 p16 hD7l
            exact J_store rfl _ (.tmp 11) (.tmp 54) rfl (by rw [hR.ev 16 rfl rfl p16, hR.ev 13 rfl rfl p13]; exact hs) (hK _ _ hI')
          refine JSteps.cons (fun V L a w hLi hpre hR hI K hK => ?_) trivial
          ·
            have p : L 14 = true := hpre 14 (List.mem_of_elem_eq_true (by kernel_rfl))
            exact J_assign rfl (.tmp 55) rfl (hK _ _ { hI with v19 := fun _ => ⟨p, hR.ev 14 rfl rfl p⟩ })
        case refine_3 =>
          intro V Ld w8 hLd hI
          obtain ⟨x, y, E, tm', Ls, S', U', uc', Q', cq', ta, tb, hx, hy, hp, e19, e15, e16, hT8, hX8, ho1, ho2, hta, htb, hkp, R8, hD8⟩ := hI.fin hLd
          simp only [finL, putL, Act.put, Nat.reduceAdd]
          rw [e19, e15, e16]
          clear e19 e15 e16 hI hLd
          generalize V 0 = q0
          generalize V 1 = q1
          generalize V 2 = q2
          generalize V 3 = q3
          generalize V 4 = q4
          generalize V 5 = q5
          generalize V 6 = q6
          generalize V 7 = q7
          generalize V 8 = q8
          generalize V 9 = q9
          generalize V 10 = q10
          generalize V 11 = q11
          generalize V 12 = q12
          generalize V 13 = q13
          generalize V 14 = q14
          clear V
          have hB8 : IntBlk w8 gc cs := (hkp.block gc HB7.out.lt (by omega)).trans HB7.out
          have hXb : BudCell w8 bb P Am (.slice Q S.length cq) := HX7.out.kep hkp (by omega)
          have hN8 : NzCell w8 nb 3 1 2 := HN7.out.kep hkp (by omega)
          have hU8 : ElAt elC w8 U L := HU7.out.kep hkp (fun a e => by have := (HUB.out a e).2.2; show ¬ a.block = D; omega)
          have hO8 : SpOwn w8 (gc + 1) (.slice Q S.length cq) S := own_kep HO7.out hkp (fun b eb => by have := (own_ge HO7.out b eb).1; show ¬ b = D; omega)
          have hb8 : Below w.heap.size w w8 := hkp.toBelow hb7 (fun b hx => by omega)
          obtain ⟨j0, j1, j2⟩ := HT.out.cnt.at_ hPx.1 HT.out.tm0 (by have := HT.out.tm1; omega)
          obtain ⟨kk, hkk⟩ : ∃ kk : Nat, tn / P = (kk : Int) := ⟨(tn / P).toNat, by omega⟩
          rw [hkk] at j0 j1 j2
          rw [Int.toNat_natCast] at j2
          have u1 : tn.tdiv P = (kk : Int) := by rw [← hkk]; exact Int.tdiv_eq_ediv_of_nonneg HT.out.tm0
          have v1 : IntKind.i64.wrap (kk : Int) = (kk : Int) := IntWalk.i64_in _ (by omega)
          have yg := hB8.cell kk (by rw [HT.out.cnt.1]; omega)
          have yf := hB8.frozen kk
          have hrng := used_small HT.out
          have hlen20 := HT.out.len
          obtain ⟨uu, huu⟩ : ∃ uu, uu = used P S tn := ⟨_, rfl⟩
          rw [j2, ← huu] at yg
          rw [← huu] at hrng
          have HKK := Lib.hid hkk
          have HUU := Lib.hid huu
          have x0 := hXb.c0
          have x1 := hXb.c1
          have x2 := hXb.c2
          have hP0 : P ≠ 0 := by omega
          clear hkk huu j2
          have lxb := blk_lt hXb
          have lgb := hB8.lt
          have HB8 := Lib.hid hB8
          have HXB := Lib.hid hXb
          have HN8 := Lib.hid hN8
          have HU8 := Lib.hid hU8
          have HO8 := Lib.hid hO8
          have HD8 := Lib.hid hD8
          have HT8 := Lib.hid hT8
          have HX8 := Lib.hid hX8
          have HP1 := Lib.hid ho1
          have HP2 := Lib.hid ho2
          have n0 := hN8.c0
          have n1 := hN8.c1
          have n2 := hN8.c2
          have ln8 := hN8.lt
          have t0 := hT8.c0
          have t1 := hT8.c1
          have HUX := Lib.hid (show ∀ a, U = some a → ¬ (a.block = gc ∨ a.block = bb) from fun a e => by have := (HUB.out a e).2.2; omega)
          have hg7 : gc < w7.heap.size := by omega
          clear hB8 hXb hN8 hU8 hO8 hD8 hT8 hX8 ho1 ho2 HN7 HX7 HO7 HB7 HU7 HD7 HUB HQs HQn
          rcases hp with ⟨hu, rfl, rfl, rfl, rfl⟩ | ⟨hu, rfl, rfl, rfl, rfl⟩
          case inr =>
            rw [← HUU.out] at hu
            have b1 : decide (uu < Am) = false := decide_eq_false hu
            go_wp2_with fail
            go_quiet (fail)
            go_wp2_with fail
            go_roundw
            case rel => exact ⟨k, tn, S, cs, Q, cq, R8, by go_num, rfl, HT.out, HN8.out, HXB.out, HO8.out, HB8.out, HD8.out.drewN _, below_drewN hb8 _⟩
            case measure => simp [intOf]
          case inl =>
            rw [← HUU.out] at hu
            have b1 : decide (uu < Am) = true := decide_eq_true hu
            have lT := HT8.out.lt
            have y0 := HX8.out.c0
            have y1 := HX8.out.c1
            have y2 := HX8.out.c2
            have f0 := HXB.out.frozen 0
            have f1 := HXB.out.frozen 1
            have f2 := HXB.out.frozen 2
            have v2 : IntKind.i64.wrap (uu + 1) = uu + 1 := IntWalk.i64_in _ (by omega)
            have lxt := blk_lt HX8.out
            go_wp2_with fail
            go_quiet (fail)
            go_wp2_with fail
            refine gen_calls fun W9 hW9 => ?_
            have hk9 : Kep (fun b => b = gc ∨ b = bb) w8 W9 := by
              rw [hW9]
              exact ((((show Kep (fun b => b = gc ∨ b = bb) w8 (w8.drewN nq) from ⟨rfl, rfl, rfl, Nat.le_refl _, fun _ _ _ => rfl⟩).set ⟨gc, kk, none⟩ _ (.inl (.inl rfl))).set ⟨bb, 0, none⟩ _ (.inl (.inr rfl))).set ⟨bb, 1, none⟩ _ (.inl (.inr rfl))).set ⟨bb, 2, none⟩ _ (.inl (.inr rfl))
            have hB9 : IntBlk W9 gc (cs.set kk (uu + 1)) := by
              rw [hW9]
              have h1 := (show IntBlk (w8.drewN nq) gc cs from HB8.out).set_ kk (uu + 1)
              have h2 : ∀ (w : World) (j : Nat) (u : Value), (w.setCell ⟨bb, j, none⟩ u).heap[gc]? = w.heap[gc]? := fun w j u => Below.heap_setCell w ⟨bb, j, none⟩ u gc (by simp; omega)
              exact ((h2 _ _ _).trans ((h2 _ _ _).trans (h2 _ _ _))).trans h1
            have hX9 : BudCell W9 bb P Am (.slice Q' (S.length + 1) cq') := by
              rw [hW9]
              have h1 : BudCell ((w8.drewN nq).setCell ⟨gc, kk, none⟩ (.int .i64 (uu + 1))) bb P Am (.slice Q S.length cq) := (show BudCell (w8.drewN nq) bb P Am (.slice Q S.length cq) from HXB.out).other _ _ (by simp; omega)
              exact ((h1.set0 P).set1 Am).set2 _
            have hN9 : NzCell W9 nb 3 1 2 := HN8.out.kep hk9 (by omega)
            have hU9 : ElAt elC W9 U L := HU8.out.kep hk9 HUX.out
            have hT9 : TabCell W9 ta tn (.slice U' (ln2 L x y).length uc') := HT8.out.kep hk9 (by omega)
            have hL9 : ElOwn elL 74 W9 w7.heap.size (.slice U' (ln2 L x y).length uc') (ln2 L x y) := own_kep HP1.out hk9 (fun b eb => by have := (own_ge HP1.out b eb).1; omega)
            have hS9 : SpOwn W9 w7.heap.size (.slice Q' (S ++ [(tn, 1)]).length cq') (S ++ [(tn, 1)]) := own_kep HP2.out hk9 (fun b eb => by have := (own_ge HP2.out b eb).1; omega)
            have hD9 : DiceAt W9 D R8 := HD8.out.kep hk9 (fun b hb => by omega)
            have hb9 : Below w.heap.size w W9 := hk9.toBelow hb8 (fun b hx => by omega)
            have HSI := Lib.hid (HT.out.snoc (by omega) (by rw [← HUU.out]; exact hu))
            have HB9 := Lib.hid hB9
            have HX9 := Lib.hid hX9
            have HN9 := Lib.hid hN9
            have HT9 := Lib.hid hT9
            have HS9 := Lib.hid hS9
            have HD9 := Lib.hid hD9
            obtain ⟨U2, uc2, ev, hUL, -, -, -, -⟩ := hL9.at_
            injection ev with ev1 ev2 ev3
            subst ev1; subst ev3
            clear hW9 hk9 hB9 hX9 hN9 hT9 hS9 hD9 hL9 HB8 HXB HN8 HU8 HO8 HD8 HT8 HX8 HP1 HP2 n0 n1 n2 t0 t1 x0 x1 x2 y0 y1 y2 f0 f1 f2 yg yf lT lxt ln8 lxb lgb hb8
            refine (weigh2 U L uc tn U' x y uc' W9 hx hy hU9 (by omega) hUL).mono ?_
            rintro e wz ⟨b, off, c', y0, y1, rfl, hlt, hc0, hc1, hy0, hy1, hbz⟩
            have hTz := HT9.out.below hbz
            have t0 := hTz.c0
            have d0 : decide (y0 < 1) = false := decide_eq_false (by omega)
            have d1 : decide (y1 < 1) = false := decide_eq_false (by omega)
            have d2 : (tn != tn) = false := by simp
            have hl2 : (ln2 L x y).length = 2 := rfl
            clear hTz hUL hU9
            go_wp2_with fail
            go_roundw
            case rel =>
              have hsi := HSI.out
              rw [HKK.out, Int.toNat_natCast, ← HUU.out] at hsi
              have e1 : (S ++ [((tn, 1) : Spd)]).length = S.length + 1 := by simp
              refine ⟨k, tn, S ++ [(tn, 1)], cs.set kk (uu + 1), Q', cq', R8, by go_num, rfl, hsi, HN9.out.below hbz, ?_, (HS9.out.below hbz).mono (by omega), HB9.out.below hbz, HD9.out.below hbz, hb9.trans (hbz.mono hb9.size)⟩
              rw [e1]; exact HX9.out.below hbz
            case measure => simp [intOf]
end Go.Proofs.Ytmnkgfimdlhhiaa
namespace Go.Proofs.Ytmnkgfimdlhhiaa
open Go.RowKit

theorem cell_block_lt {w : World} {a : Addr} {v : Value} (h : w.cell? a = some v) : a.block < w.heap.size := by
  rcases Nat.lt_or_ge a.block w.heap.size with hlt | hge
  · exact hlt
  · unfold World.cell? at h; simp [Array.getElem?_eq_none hge] at h
theorem open_row {W : World} {x : Addr} {len cap : Nat} {zs : List Int} (hl : len ≤ cap) (hm : cap ≤ maxLen) (hz : zs.length = cap) (hcell : ∀ i, i < zs.length → W.cell? (x.add i) = some (.int .i64 (zs.getD i 0)))
    (hb : ∀ n ∈ zs, -9223372036854775808 ≤ n ∧ n ≤ 9223372036854775807) :
    ∃ ys : List Int, ys.length = len ∧ ys.length ≤ maxLen ∧ IntsAt W (some x) ys ∧ ∀ n ∈ ys, -9223372036854775808 ≤ n ∧ n ≤ 9223372036854775807 := by
  refine ⟨zs.take len, by simp; omega, by simp; omega, fun k hk => ?_, fun n hn => hb n (List.mem_of_mem_take hn)⟩
  have hk' : k < len := by simpa using Nat.lt_of_lt_of_le hk (List.length_take_le _ _)
  have h0 := hcell 0 (by omega)
  have hk0 := hcell k (by omega)
  obtain ⟨b, off, spot⟩ := x
  have hs : spot = none := by simpa [Addr.add] using World.cell?_spot h0
  subst hs
  have hlt := cell_block_lt hk0
  refine ⟨b, off, rfl, ?_, ?_⟩
  · unfold Addr.add at hlt; split at hlt <;> exact hlt
  · have e : (⟨b, off, none⟩ : Addr).add k = ⟨b, off + k, none⟩ := by
      unfold Addr.add; split
      · rename_i h; subst h; rfl
      · rfl
    rw [← e, hk0, nth_eq hk]
    simp [List.getD_eq_getElem?_getD, show k < zs.length by omega]
end Go.Proofs.Ytmnkgfimdlhhiaa
