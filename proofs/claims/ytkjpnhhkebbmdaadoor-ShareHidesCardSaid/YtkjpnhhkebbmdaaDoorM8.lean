/-
  Shares: the program's Explain.
  ShareHides: shares that are explained; one share as a list.
  ShareHides: the walk.
  A slice of numbers that came in reads as a list.
  Conditions: those that each theorem names.
-/
import Derived.Test.YtkjpnhhkebbmdaaDoorM7
set_option linter.unusedVariables false
set_option linter.unusedSimpArgs false
namespace Go.Proofs.YtkjpnhhkebbmdaaDoor
open Go.RowKit

set_option maxHeartbeats 1000000 in
theorem indexN_any (B : Option Addr) (L : List Nat) (x c : Nat) (w : World) (hI : NatsAt w B L) (hl : L.length ≤ 1048576) :
    Calls Tryd.prog 74 #[.slice B L.length c, .int .i64 (x : Int)] w (fun e w' => ∃ i : Int, e = .returned (.int .i64 i) ∧ decide (0 ≤ i) = decide (x ∈ L) ∧ Below w.heap.size w w') := by
  have HS := Lib.hid hI
  clear hI
  go_enter Tryd.func74, Tryd.ntmps74
  go_wp2_with fail
  go_loopw [8] (fun i wr => ∃ k : Nat, k ≤ L.length ∧ i = .int .i64 k ∧ (∀ j, j < k → nthN L j ≠ x) ∧ Below w.heap.size w wr) (fun i _ => L.length - (intOf i).toNat)
  case atStart => exact ⟨0, Nat.zero_le _, rfl, fun j hj => absurd hj (by omega), Below.refl _ _⟩
  case round =>
    obtain ⟨k, hk, rfl, hpre, hbr⟩ := hrel
    have HP := Lib.hid hpre
    clear hpre
    by_cases hlt : k < L.length
    · obtain ⟨b, off, rfl, hbl, c1⟩ := HS.out k hlt
      have d1 := (hbr.cell hbl).trans c1
      clear c1
      have HM := Lib.hid (nthN_mem hlt)
      have HY := Lib.hid (show nthN L k = nthN L k from rfl)
      generalize hy : nthN L k = y at d1 HM
      have HYK := Lib.hid hy
      clear hy HY
      by_cases hxy : x = y
      · subst hxy
        go_wp2_with fail
        go_ret
        exact ⟨_, rfl, by rw [decide_eq_true HM.out]; exact decide_eq_true (by omega), hbr⟩
      · have t : ((x : Int) == (y : Int)) = false := by simp; omega
        have HNE := Lib.hid hxy
        clear hxy
        go_wp2_with fail
        go_roundw
        case rel =>
          refine ⟨k + 1, by omega, by go_num, fun j hj => ?_, hbr⟩
          by_cases hjk : j = k
          · subst hjk; rw [HYK.out]; exact fun e => HNE.out e.symm
          · exact HP.out j (by omega)
        case measure => simp [intOf]; omega
    · go_wp2_with fail
      go_ret
      refine ⟨_, rfl, ?_, hbr⟩
      have : ¬ x ∈ L := fun hx => by
        obtain ⟨j, hj, e⟩ := List.getElem_of_mem hx
        exact HP.out j (by omega) (by rw [nthN_eq hj]; exact e)
      rw [decide_eq_false this]; rfl
set_option maxHeartbeats 400000 in
theorem containsN_any (B : Option Addr) (L : List Nat) (x c : Nat) (w : World) (hI : NatsAt w B L) (hl : L.length ≤ 1048576) :
    Calls Tryd.prog 62 #[.slice B L.length c, .int .i64 (x : Int)] w (RetB (.bool (decide (x ∈ L))) w) := by
  have HC := Lib.hid (indexN_any B L x c w hI hl)
  clear hI
  go_enter Tryd.func62, Tryd.ntmps62
  go_wp2_with fail
  refine HC.out.mono ?_
  rintro e w1 ⟨i, rfl, hi, hb⟩
  have HI := Lib.hid hi
  clear hi
  go_wp2_with fail
  go_ret
  exact RetB.bool HI.out hb
theorem xpX_mem {hs : List Nat} {j : Nat} : (j + 1) ∈ xpX hs j ↔ (j + 1) ∈ hs := by
  unfold xpX
  refine ⟨fun h => ?_, fun h => List.mem_append_left _ (List.mem_append_right _ h)⟩
  rcases List.mem_append.1 h with h | h
  · rcases List.mem_append.1 h with h | h
    · simp at h
    · exact h
  · have := fill_mem h; omega
theorem xpX_held {hs : List Nat} {j : Nat} (h : (j + 1) ∈ hs) : xpX hs (j + 1) = xpX hs j := by unfold xpX; rw [fill_held h]
theorem xpX_new {hs : List Nat} {j : Nat} (h : ¬ (j + 1) ∈ hs) : xpX hs (j + 1) = xpX hs j ++ [j + 1] := by unfold xpX; rw [fill_new h]; simp only [List.append_assoc]
theorem xpX_many (hs : List Nat) (j : Nat) : j + 1 ≤ (xpX hs j).length := by rw [xpX_len]; have := fill_many hs j; omega
theorem deal_goT {wr w6 : World} {d base p : Nat} {n h : Int} {T : List ShN} (hD : DlrAt wr d base p n h T) (hb : Below wr.heap.size wr w6) {F : Option Addr} {f : List Nat} (hF : NatsAt w6 F f) (hFb : ∀ b off, F = some ⟨b, off, none⟩ → wr.heap.size ≤ b ∧ b < w6.heap.size) (cf : Nat)
    (hp : 1 ≤ p) (hp2 : p ≤ 2147483648) (hf : ∀ x ∈ f, x < p) (hh : ∀ j, j < T.length → hN T j < p ∧ (vN T j).length ≤ 1048576) (hh0 : T.length ≤ 1000) (hfl : f.length ≤ 1048576) :
    Calls Tryd.prog 46 #[.pointer (some ⟨d, 0, none⟩), .slice F f.length cf] w6
      (fun e w' => e = .returned (.tuple #[]) ∧ DlrAt w' d base p n h (stepT p f T T.length) ∧ Below base w6 w') := by
  obtain ⟨h1, h2, v, H, h3, h4⟩ := hD
  refine deal_any d base p n h _ F cf f w6 v H h1 (Nat.le_trans h2 hb.size) ((hb.block d (by omega)).trans h3) (h4.below hb) hF (fun bF off e => ⟨fun i hi b e2 => ?_, fun b e2 => ?_⟩) (fun bF off e => (hFb bF off e).2) hp hp2 hf (fun j hj => (hh j hj).1) hfl hh0 (fun j hj => (hh j hj).2)
  · have := (hFb bF off e).1
    have := (World.ownsRow.lt (h4.row i hi) b e2).2
    omega
  · have := (hFb bF off e).1
    have := (World.ownsRow.lt h4.out b e2).2
    omega
theorem sl_none {A : Option Addr} {c : Nat} {L : List Nat} (h : SlOK A c L) : A = none → L.length = 0 ∧ c = 0 := fun e => by
  have h1 := h.nil e
  have h2 := h.len
  exact ⟨by omega, h1⟩
theorem xpY_lit (K : List ShN) (sec : List Nat) (c e : Nat) : [nthN sec e] ++ colN K e ++ List.replicate c 0 = xpY K sec c e := rfl
theorem thR_xp {p n h k : Nat} {K : List ShN} {sec : List Nat} (P : PlanN p n h) (hg : GoodN p h K) (hk : k < p) (e : Nat) :
    thR p (xpX (hsN K) k) (xpY K sec (fillN (hsN K) k).length e) = thN p (xpX (hsN K) k) (xpY K sec (fillN (hsN K) k).length e) ∧ itE (xpX (hsN K) k) (xpY K sec (fillN (hsN K) k).length e) = 0 := by
  have hr := hs_rng hg
  have h0 : itE (xpX (hsN K) k) (xpY K sec (fillN (hsN K) k).length e) = 0 := by
    rw [itE_len (by rw [xpX_len, xpY_len, hsN_len]), ckE_ok (by rw [xpX_len]; omega) (xpX_nodup hg.nd (fun h0 => by have := hr 0 h0; omega) k)]
  exact ⟨thR_ok h0, h0⟩

set_option maxRecDepth 100000 in
set_option maxHeartbeats 8000000 in
theorem explain_any {P0 : Nat → Prop} {p n h : Nat} (P : PlanN p n h) (A B : Option Addr) (ca cb : Nat) (S : List Shr) (sec : List Int) (w : World) (hB : Bases w) (hS : ShP P0 w A ca S) (hsh : Short S) (hl : S.length ≤ 1048576) (hI : IntsAt w B sec) (hl2 : sec.length ≤ 1048576) :
    Calls Tryd.prog 40 #[planV p n h, .slice A S.length ca, .slice B sec.length cb] w (ShErr (shL (xpL p n h S sec)) (xpE p n h S sec) w) := by
  have hva := valid_plan p n h (w.alloc (.cells #[.int .i64 (p : Int), .int .i64 (n : Int), .int .i64 (h : Int)] 24)) (hB.keep (below_alloc _ _))
  rw [P.pl] at hva
  have HV := Lib.hid hva
  have HGD := Lib.hid (fun (W : World) (hb : Below w.heap.size w W) => good_any p n h A ca S W (hS.below hb) hsh (by have := P.h7; omega) hl)
  have HES := Lib.hid (fun (W : World) (hb : Below w.heap.size w W) => elements_plan p n h B sec cb W (hI.below hb) (by omega))
  have HS := Lib.hid hS
  have HI := Lib.hid hI
  have HPN := Lib.hid P
  have hn1 := P.n1
  have hnh := P.nh
  have hh7 := P.h7
  have hhp := P.hp
  have hp2 := P.p2
  have hp1 := P.p1
  clear hva hS hI hB hsh P
  cases hgd : gdB p h S with
  | false =>
    have he := xpE_gd (n := n) (sec := sec) hgd
    rw [xpL_no (by rw [he]; decide), he]
    rw [hgd] at HGD
    clear hgd he
    go_enter Tryd.func40, Tryd.ntmps40
    go_wp2_with fail
    refine ret_below HV.out ?_
    intro w1 hb1
    have hbw1 := below_trans (below_alloc _ _) hb1
    have HP1 := Lib.hid ((PlanCell.new (w := w) p n h rfl).below hb1)
    have p0 := HP1.out.c0
    have p1 := HP1.out.c1
    have p2 := HP1.out.c2
    go_wp2_with fail
    refine ret_below (HGD.out _ hbw1) ?_
    intro w2 hb2
    have hbw2 := below_trans hbw1 hb2
    have HP2 := Lib.hid (HP1.out.below hb2)
    clear p0 p1 p2
    have p0 := HP2.out.c0
    have p1 := HP2.out.c1
    have p2 := HP2.out.c2
    go_wp2_with fail
    go_ret2
    exact ShErr.nil _ hbw2
  | true =>
    rw [hgd] at HGD
    have HGT := Lib.hid hgd
    clear hgd
    rcases Nat.eq_zero_or_pos S.length with h0 | h0
    · have hln : S.length = 0 ∨ (vS S 0).length = sec.length := .inl h0
      have HLN := Lib.hid hln
      clear hln
      rw [h0] at HGD hl ⊢
      have HZ := Lib.hid h0
      clear h0
      cases hin : inside p sec with
      | false =>
        have he := xpE_in (p := p) (n := n) (h := h) HGT.out HLN.out hin
        rw [xpL_no (by rw [he]; decide), he]
        rw [hin] at HES
        clear he hin
        go_enter Tryd.func40, Tryd.ntmps40
        go_wp2_with fail
        refine ret_below HV.out ?_
        intro w1 hb1
        have hbw1 := below_trans (below_alloc _ _) hb1
        have HP1 := Lib.hid ((PlanCell.new (w := w) p n h rfl).below hb1)
        have p0 := HP1.out.c0
        have p1 := HP1.out.c1
        have p2 := HP1.out.c2
        go_wp2_with fail
        refine ret_below (HGD.out _ hbw1) ?_
        intro w2 hb2
        have hbw2 := below_trans hbw1 hb2
        have HP2 := Lib.hid (HP1.out.below hb2)
        clear p0 p1 p2
        have p0 := HP2.out.c0
        have p1 := HP2.out.c1
        have p2 := HP2.out.c2
        go_wp2_with fail
        refine ret_below (HES.out _ hbw2) ?_
        intro w3 hb3
        have hbw3 := below_trans hbw2 hb3
        have HP3 := Lib.hid (HP2.out.below hb3)
        clear p0 p1 p2
        have p0 := HP3.out.c0
        have p1 := HP3.out.c1
        have p2 := HP3.out.c2
        go_wp2_with fail
        go_ret2
        exact ShErr.nil _ hbw3
      | true =>
        rw [hin] at HES
        by_cases hbig : 2048 < sec.length
        · have he := xpE_few (p := p) (n := n) (h := h) HGT.out HLN.out hin (.inr hbig)
          rw [xpL_no (by rw [he]; decide), he]
          have f0 : ¬ ((n : Int) ≤ ((0 : Nat) : Int)) := by omega
          have f1 : (2048 : Int) < (sec.length : Int) := by omega
          clear he hin
          go_enter Tryd.func40, Tryd.ntmps40
          go_wp2_with fail
          refine ret_below HV.out ?_
          intro w1 hb1
          have hbw1 := below_trans (below_alloc _ _) hb1
          have HP1 := Lib.hid ((PlanCell.new (w := w) p n h rfl).below hb1)
          have p0 := HP1.out.c0
          have p1 := HP1.out.c1
          have p2 := HP1.out.c2
          go_wp2_with fail
          refine ret_below (HGD.out _ hbw1) ?_
          intro w2 hb2
          have hbw2 := below_trans hbw1 hb2
          have HP2 := Lib.hid (HP1.out.below hb2)
          clear p0 p1 p2
          have p0 := HP2.out.c0
          have p1 := HP2.out.c1
          have p2 := HP2.out.c2
          go_wp2_with fail
          refine ret_below (HES.out _ hbw2) ?_
          intro w3 hb3
          have hbw3 := below_trans hbw2 hb3
          have HP3 := Lib.hid (HP2.out.below hb3)
          clear p0 p1 p2
          have p0 := HP3.out.c0
          have p1 := HP3.out.c1
          have p2 := HP3.out.c2
          go_wp2_with fail
          go_ret2
          exact ShErr.nil _ hbw3
        have he := xpE_ok (p := p) (n := n) (h := h) HGT.out HLN.out hin (fun e => e.elim (fun e => by have := HZ.out; omega) hbig)
        rw [xpL_ok he, he]
        obtain ⟨hSN, hg⟩ := gd_nat (gdB_of HGT.out)
        obtain ⟨e1, e2⟩ := inside_nat hin
        have hs1 : (sec.map Int.toNat).length = sec.length := by simp
        have hSNl : (sec.map Int.toNat).length ≤ 2048 := by omega
        have hAn : NatsAt w B (sec.map Int.toNat) := IntsAt.nats (by rw [e1]; exact HI.out)
        have HAN := Lib.hid hAn
        have HG := Lib.hid hg
        have HSP := Lib.hid e2
        have HS1 := Lib.hid hs1
        have hNl : (natL S).length = 0 := by have h1 := natL_len S; have h2 := HZ.out; omega
        have HNL := Lib.hid hNl
        have HVL := Lib.hid (show ∀ k, k < (natL S).length → (vN (natL S) k).length = sec.length from fun k hk => by
          have hk' : k < S.length := by rw [natL_len] at hk; exact hk
          have h1 := hg.len k hk
          have h2 : (vN (natL S) 0).length = (vS S 0).length := by
            conv => rhs; rw [hSN]
            rw [vS_shL, len_ofN]
          rw [h1, h2]
          exact HLN.out.resolve_left (by omega))
        have HNS : Hid (ShP P0 w A ca (shL (natL S))) := by rw [← hSN]; exact HS.out
        have hf0 : ¬ ((n : Int) ≤ ((0 : Nat) : Int)) := by omega
        have hf1 : ¬ ((2048 : Int) < (sec.length : Int)) := by omega
        have hnl2 : 0 + 1 ≤ n := by omega
        have hhl : (hsN (natL S)).length = 0 := by rw [hsN_len]; exact hNl
        have HXLT := Lib.hid (show ∀ x ∈ hsN (natL S), x < p from fun x hx => by have := hs_rng hg x hx; omega)
        have HHO := Lib.hid (fun (W : World) (hb : Below w.heap.size w W) => holders_any A ca (natL S) W (HNS.out.below hb) (by rw [HNL.out]; omega))
        rw [hNl] at HHO
        have HVA := Lib.hid (fun (i : Nat) (hi : i < sec.length) (W : World) (hb : Below w.heap.size w W) => values_any A ca (natL S) i W (HNS.out.below hb) (by rw [HNL.out]; omega) (fun k hk => by rw [HVL.out k hk]; exact hi) (by omega))
        rw [hNl] at HVA
        have HHL := Lib.hid hhl
        have hcl : ∀ i, (colN (natL S) i).length = 0 := fun i => by rw [colN_len]; exact hNl
        have HCL := Lib.hid hcl
        clear he hin hbig hSN hg e1 e2 hs1 hAn hNl hhl hcl HS HI HZ HLN HGT
        generalize sec.map Int.toNat = SN at *
        generalize natL S = N at *
        go_enter Tryd.func40, Tryd.ntmps40
        go_wp2_with fail
        refine ret_below HV.out ?_
        intro w1 hb1
        have hbw1 := below_trans (below_alloc _ _) hb1
        have HP1 := Lib.hid ((PlanCell.new (w := w) p n h rfl).below hb1)
        have p0 := HP1.out.c0
        have p1 := HP1.out.c1
        have p2 := HP1.out.c2
        go_wp2_with fail
        refine ret_below (HGD.out _ hbw1) ?_
        intro w2 hb2
        have hbw2 := below_trans hbw1 hb2
        have HP2 := Lib.hid (HP1.out.below hb2)
        clear p0 p1 p2
        have p0 := HP2.out.c0
        have p1 := HP2.out.c1
        have p2 := HP2.out.c2
        go_wp2_with fail
        refine ret_below (HES.out _ hbw2) ?_
        intro w3 hb3
        have hbw3 := below_trans hbw2 hb3
        have HP3 := Lib.hid (HP2.out.below hb3)
        clear p0 p1 p2
        have p0 := HP3.out.c0
        have p1 := HP3.out.c1
        have p2 := HP3.out.c2
        go_wp2_with fail
        refine (HHO.out _ (hbw3.trans ((below_alloc _ _).mono hbw3.size))).mono ?_
        intro e w4 hnl
        obtain ⟨X0, c0x, rfl, hX0, hXo, -, hb4⟩ := hnl.open_
        have hbw4 : Below w3.heap.size w3 w4 := below_trans (below_alloc _ _) hb4
        have HO0 := Lib.hid (own_below ((lit1_nats w3 0).own (Nat.le_refl w3.heap.size) (by unfold maxLen; simp)) hb4)
        have hsz4 := hbw4.size
        have HX0 := Lib.hid hX0
        have HXO := Lib.hid hXo
        clear hnl hX0 hXo p0 p1 p2 hb4
        have HP4 := Lib.hid (HP3.out.below hbw4)
        have p0 := HP4.out.c0
        have p1 := HP4.out.c1
        have p2 := HP4.out.c2
        have lp4 := HP4.out.lt
        have HX1 : Hid ([0] ++ hsN N = xpX (hsN N) 0) := by unfold xpX fillN; exact (List.append_nil _).symm
        have hxl := xpX_len (hsN N) 0
        rw [HHL.out] at hxl
        have hx00 : (fillN (hsN N) 0).length = 0 := rfl
        rw [hx00] at hxl
        have HXLE := Lib.hid hxl
        clear hxl
        generalize hHS : hsN N = hs at *
        have HHS := Lib.hid hHS
        clear hHS hx00
        go_wp2_with (at_builtin; refine app_sl rfl (.tmp 57) (.tmp 59) rfl (base := w3.heap.size) (v := .slice (some ⟨w3.heap.size, 0, none⟩) 1 1) (S := [0]) hs X0 c0x rfl HO0.out rfl HX0.out (sl_none HXO.out) (.inr HXO.out.spot) (by simp only [List.length_cons, List.length_nil]; rw [HHL.out]; omega) hsz4 ?_; intro v5 w5 hown5 hb5; rw [HX1.out] at hown5; have q15 := (hb5.cell (p := ⟨w.heap.size, 1, none⟩) (by have := HP3.out.lt; simpa using this)).trans p1; obtain ⟨X5, x5c, rfl, -, -, -⟩ := own_sl hown5 rfl; have HO5 := Lib.hid hown5; clear hown5)
        have hbw5 : Below w3.heap.size w3 w5 := hbw4.trans hb5
        have HP5 := Lib.hid (HP3.out.below hbw5)
        have hsz5 := hbw5.size
        clear p0 p1 p2 q15 HX0 HXO HO0 hb5 hbw4 hsz4 HP4
        go_loopw [8, 9] (fun v i wr => ∃ j : Nat, i = .int .i64 ((j : Int) + 1) ∧ (xpX hs j).length ≤ n ∧ wr.ownsRow w3.heap.size 3 1 v (xpX hs j).length (valsN (xpX hs j)) ∧ Below w3.heap.size w3 wr) (fun _ i _ => n - (intOf i).toNat)
        case atStart => exact ⟨0, rfl, by have := HXLE.out; omega, HO5.out, hbw5⟩
        case round =>
          obtain ⟨j, rfl, hjl, hown, hbr⟩ := hrel
          have hmany := xpX_many hs j
          have hbwr := below_trans hbw3 hbr
          have hszr := hbr.size
          have hPr := HP3.out.below hbr
          have q0 := hPr.c0
          have q1 := hPr.c1
          have q2 := hPr.c2
          have HPr := Lib.hid hPr
          clear hPr
          obtain ⟨XA, xc, rfl, hXA, hXO, hXb⟩ := own_sl hown rfl
          have HXA := Lib.hid hXA
          have HXO := Lib.hid hXO
          have HXB := Lib.hid hXb
          have HOW := Lib.hid hown
          clear hXA hXO hXb hown
          by_cases hlt : (xpX hs j).length < n
          · have HCN := Lib.hid (containsN_any XA (xpX hs j) (j + 1) xc wr HXA.out (by omega))
            have HJL := Lib.hid hlt
            by_cases hmem : (j + 1) ∈ hs
            · rw [decide_eq_true (xpX_mem.2 hmem)] at HCN
              have HXE := Lib.hid (xpX_held hmem)
              clear hmem
              generalize hXX : xpX hs j = X at *
              go_wp2_with fail
              refine ret_below HCN.out ?_
              intro w6 hb6
              go_wp2_with fail
              go_roundw
              case rel => exact ⟨j + 1, by go_num, by rw [HXE.out]; exact hjl, by rw [HXE.out]; exact own_below HOW.out hb6, hbr.trans (hb6.mono hszr)⟩
              case measure => simp [intOf]; omega
            · rw [decide_eq_false (fun g => hmem (xpX_mem.1 g))] at HCN
              have HXE := Lib.hid (xpX_new hmem)
              clear hmem
              generalize hXX : xpX hs j = X at *
              go_wp2_with fail
              refine ret_below HCN.out ?_
              intro w6 hb6
              have HO6 := Lib.hid (own_below HOW.out hb6)
              have hsz6 : w3.heap.size ≤ w6.heap.size := Nat.le_trans hszr hb6.size
              have hb36 : Below w3.heap.size w3 w6 := hbr.trans (hb6.mono hszr)
              go_wp2_with (at_builtin; refine app_nats rfl (.tmp 72) (.tmp 74) rfl (base := w3.heap.size) (S := X) (T := [j + 1]) rfl (HO6.out.alloc _) rfl ((lit1_at _ _ (j + 1) rfl).nats.news rfl) (by simp; omega) (by simp; omega) ?_; intro v7 w7 hown7 hg7 hb7)
              go_roundw
              case rel => exact ⟨j + 1, by go_num, by rw [HXE.out, List.length_append]; simp; omega, by rw [HXE.out]; exact hown7, hb36.trans (below_of_alloc hb7 hsz6)⟩
              case measure => simp [intOf]; omega
          · have hxn : (xpX hs j).length = n := by omega
            have hjp : j < p := by omega
            have HTR := Lib.hid (fun e => thR_xp (sec := SN) HPN.out HG.out hjp e)
            have HRW := Lib.hid (xp_rows HPN.out HG.out HSP.out hjp)
            have hfl : N.length + 1 + (fillN (hsN N) j).length = n := by
              have := xpX_len hs j
              rw [HHL.out] at this
              rw [HNL.out, HHS.out]; omega
            have HXM := Lib.hid (xpM_of (p := p) (h := h) (sec := SN) hfl)
            have HXP := Lib.hid (show ∀ y ∈ xpX hs j, y < p from xpX_lt HXLT.out hjp)
            have HYP := Lib.hid (fun e => xpY_lt (K := N) (sec := SN) (c := (fillN (hsN N) j).length) (e := e) (p := p) (by omega) (fun k hk => (HG.out.rng k hk).2.2) HSP.out)
            have HYL := Lib.hid (fun e => xpY_len N SN (fillN (hsN N) j).length e)
            have hcN : (fillN (hsN N) j).length + (0 + 1) = n := by rw [HNL.out] at hfl; omega
            have HYE := Lib.hid (fun e => xpY_lit N SN (fillN (hsN N) j).length e)
            have HRL := Lib.hid (show (explN p h N SN j).length = h by unfold explN; exact exN_len _ _ _ _ _)
            rw [HHS.out] at HTR HRW HYP HYL HYE hcN
            generalize (fillN hs j).length = cF at *
            generalize explN p h N SN j = RES at *
            clear hfl hmany
            generalize hXX : xpX hs j = X at *
            have HXN := Lib.hid hxn
            go_wp2_with fail
            refine (newDealer_any p n h _ (by omega)).mono ?_
            rintro e w6 ⟨d, base, rfl, hdw, hD, hb6⟩
            have hdb := hD.1
            have hdz := hD.2.1
            have HD0 : Hid (DlrAt w6 d base p n h (exT p h 0 (fun e => thN p X (xpY N SN cF e)))) := by rw [exT_zero]; exact hD
            clear hD q0 q1 q2 HOW
            go_wp2_with fail
            go_loopw [80] (fun i wr => ∃ m : Nat, m ≤ sec.length ∧ i = .int .i64 m ∧ DlrAt wr d base p n h (exT p h m (fun e => thN p X (xpY N SN cF e))) ∧ Below base w6 wr) (fun i _ => sec.length - (intOf i).toNat)
            case atStart => exact ⟨0, Nat.zero_le _, rfl, HD0.out, Below.refl _ _⟩
            case round =>
              obtain ⟨m, hm, rfl, hDl, hbl⟩ := hrel
              have hbl6 := hb6.trans (hbl.mono (by omega))
              have hbwl := below_trans hbwr hbl6
              have HDl := Lib.hid hDl
              have hDB : base ≤ wr.heap.size := hDl.2.1
              clear hDl
              by_cases hlm : m < sec.length
              · obtain ⟨bA, oA, rfl, hbA, hcA⟩ := (HAN.out.below hbwl) m (by rw [HS1.out]; exact hlm)
                have HST := Lib.hid (exT_succ p h m (fun e => thN p X (xpY N SN cF e)))
                have HPl := Lib.hid (HPr.out.below hbl6)
                have q0 := HPl.out.c0
                have hxs : nthN SN m < p := nthN_lt (by omega) HSP.out m
                have HVm := Lib.hid (HVA.out m hlm)
                have HYm := Lib.hid (HYE.out m)
                have HYLm := Lib.hid (HYL.out m)
                have HYPm := Lib.hid (HYP.out m)
                have HTm := Lib.hid (HTR.out m)
                have HCm := Lib.hid (HCL.out m)
                have HTL := Lib.hid (exT_len p h m (fun e => thN p X (xpY N SN cF e)))
                have HTA := Lib.hid (fun j (hj : j < h) => exT_at (p := p) (m := m) (F := fun e => thN p X (xpY N SN cF e)) hj)
                generalize hF : thN p X (xpY N SN cF m) = f at HTm HST
                have hfl : f.length ≤ n := by rw [← hF]; exact Nat.le_trans (thN_len _ _ _) (by rw [HXN.out]; exact Nat.le_refl _)
                have HFP := Lib.hid (show ∀ x ∈ f, x < p by rw [← hF]; exact thN_lt (by omega) _ _)
                clear hF
                generalize exT p h m (fun e => thN p X (xpY N SN cF e)) = T at *
                generalize xpY N SN cF m = Y at *
                generalize nthN SN m = x at *
                generalize colN N m = col at *
                have HX7 := Lib.hid (HXA.out.below hbl6)
                go_wp2_with fail
                refine (HVm.out _ (hbwl.trans ((below_alloc _ _).mono hbwl.size))).mono ?_
                intro e w7 hnl
                obtain ⟨V7, v7c, rfl, hV7, hVo, -, hb7⟩ := hnl.open_
                have hbw7 : Below wr.heap.size wr w7 := below_trans (below_alloc _ _) hb7
                have HO7 := Lib.hid (own_below ((lit1_nats wr x).own (Nat.le_refl wr.heap.size) (by unfold maxLen; simp)) hb7)
                have hsz7 := hbw7.size
                have HV7 := Lib.hid hV7
                have HVO := Lib.hid hVo
                obtain ⟨zs, hzs⟩ : ∃ zs, zs = [x] ++ col := ⟨_, rfl⟩
                have hzl : zs.length = 1 + 0 := by rw [hzs, List.length_append, HCm.out]; rfl
                have HZS := Lib.hid hzs.symm
                rw [← hzs] at HYm
                have ecs : IntKind.i64.wrap ((n : Int) - (zs.length : Int)) = (cF : Int) := by rw [IntWalk.i64_in _ (by omega)]; omega
                have hcol1 : zs.length ≤ 8 := by omega
                have hcol0 : 0 < zs.length := by omega
                have HZL := Lib.hid hzl
                clear hzs hzl
                have HT0 := Lib.hid (fun (W : World) (Ya : Option Addr) (yc : Nat) (hX : NatsAt W XA X) (hY : NatsAt W Ya Y) => through_any p XA Ya X Y xc yc W (by omega) (by omega) hX hY HXP.out HYPm.out (by rw [HXN.out]; omega))
                rw [HTm.out.1, HTm.out.2, HXN.out] at HT0
                clear hnl hV7 hVo hb7
                have HDEAL := Lib.hid (fun (W : World) (Fa : Option Addr) (fc : Nat) (hb : Below wr.heap.size wr W) (hF : NatsAt W Fa f) (hFb : ∀ b off, Fa = some ⟨b, off, none⟩ → wr.heap.size ≤ b ∧ b < W.heap.size) => deal_goT HDl.out hb hF hFb fc (show 1 ≤ p by omega) (by omega) HFP.out (fun j hj => by rw [HTL.out] at hj; obtain ⟨g1, g2⟩ := HTA.out j hj; rw [g1, g2]; exact ⟨by omega, by simp; omega⟩) (by rw [HTL.out]; omega) (by omega))
                have q07 := (hbw7.cell (p := ⟨w.heap.size, 0, none⟩) (by have := HPl.out.lt; simpa using this)).trans q0
                have lpl := HPl.out.lt
                go_wp2_with (first
                  | (at_builtin; refine app_sl rfl (.tmp 86) (.tmp 89) rfl (base := wr.heap.size) (v := .slice (some ⟨wr.heap.size, 0, none⟩) 1 1) (S := [x]) col V7 v7c rfl HO7.out rfl HV7.out (sl_none HVO.out) (.inr HVO.out.spot) (by simp only [List.length_cons, List.length_nil]; rw [HCm.out]; omega) hsz7 ?_; intro v8 w8 hown8 hb8; rw [HZS.out] at hown8; have hbw8 : Below wr.heap.size wr w8 := hbw7.trans hb8; have hsz8 := hbw8.size; obtain ⟨Y8, y8c, rfl, -, -, -⟩ := own_sl hown8 rfl; have HO8 := Lib.hid hown8; clear hown8)
                  | (at_builtin; refine app_zeros rfl (.tmp 91) (.tmp 96) rfl (base := wr.heap.size) (S := zs) cF rfl HO8.out hcol0 rfl (by omega) hsz8 ?_; intro v9 w9 hown9 hb9; rw [HYm.out] at hown9; have hbw9 : Below wr.heap.size wr w9 := hbw8.trans hb9; have q09 := (hbw9.cell (p := ⟨w.heap.size, 0, none⟩) lpl).trans q0; obtain ⟨Y9, y9c, rfl, hY9, -, -⟩ := own_sl hown9 rfl; have HY9 := Lib.hid hY9; clear hY9 hown9)
                  | (go_at_call 63; refine (HT0.out _ Y9 y9c (HX7.out.below hbw9) HY9.out).mono ?_; rintro e w10 ⟨Fa, fc, rfl, hFN, hFO, hFb, hb10⟩; have hbw10 : Below wr.heap.size wr w10 := below_trans hbw9 hb10; have HFN := Lib.hid hFN; have HFB := Lib.hid (show ∀ b off, Fa = some ⟨b, off, none⟩ → wr.heap.size ≤ b ∧ b < w10.heap.size from fun b off e => ⟨Nat.le_trans hbw9.size (hFb b off e).1, (hFb b off e).2⟩); clear hFN hFb)
                  | (go_at_call 46; refine (HDEAL.out _ Fa fc hbw10 HFN.out HFB.out).mono ?_; rintro e w11 ⟨rfl, hD11, hb11⟩))
                have HD11 := Lib.hid (And.intro hD11 (hbl.trans ((hbw10.mono hDB).trans hb11)))
                clear hD11 hb11
                go_roundw
                case rel => exact ⟨m + 1, by omega, by go_num, by rw [← HST.out]; exact HD11.out.1, HD11.out.2⟩
                case measure => simp [intOf]; omega
              · obtain rfl : m = sec.length := by omega
                obtain ⟨-, -, v, H, hbox, hR2⟩ := HDl.out
                obtain ⟨XR, cx, rfl, hXR⟩ := hR2.read
                obtain ⟨-, c3, -⟩ := dlr_box hbox
                have hRE : exT p h sec.length (fun e => thN p X (xpY N SN cF e)) = RES := by
                  have := HRW.out
                  rw [HS1.out] at this
                  exact this
                have hX2 : ShP (fun b => w.heap.size ≤ b) wr XR cx (shL RES) := by rw [← hRE]; exact hXR.mono (fun b _ hb => by have := hbwr.size; omega)
                have hlen : RES.length = (exT p h sec.length (fun e => thN p X (xpY N SN cF e))).length := by rw [hRE]
                have HX := Lib.hid (And.intro hX2 hlen)
                clear hXR hX2 hlen hbox hR2 hRE
                go_wp2_with fail
                go_ret2
                rw [HXM.out]
                exact ⟨XR, cx, by rw [shL_len, HX.out.2]; rfl, HX.out.1, hbwl⟩

    · obtain ⟨b, off, B0, c0, rfl, hb0, -, q0, q1, -⟩ := HS.out.at_ 0 h0
      rw [Nat.zero_mul, Nat.add_zero] at q1
      have g0 : (0 : Int) < (S.length : Int) := by omega
      clear q0
      by_cases hsl : (vS S 0).length = sec.length
      · have hln : S.length = 0 ∨ (vS S 0).length = sec.length := .inr hsl
        have HLN := Lib.hid hln
        have t0 : (((vS S 0).length : Int) != (sec.length : Int)) = false := by simp; omega
        have HZ := Lib.hid (show S.length = S.length from rfl)
        clear hln hsl
        cases hin : inside p sec with
        | false =>
          have he := xpE_in (p := p) (n := n) (h := h) HGT.out HLN.out hin
          rw [xpL_no (by rw [he]; decide), he]
          rw [hin] at HES
          clear he hin
          go_enter Tryd.func40, Tryd.ntmps40
          go_wp2_with fail
          refine ret_below HV.out ?_
          intro w1 hb1
          have hbw1 := below_trans (below_alloc _ _) hb1
          have HP1 := Lib.hid ((PlanCell.new (w := w) p n h rfl).below hb1)
          have p0 := HP1.out.c0
          have p1 := HP1.out.c1
          have p2 := HP1.out.c2
          go_wp2_with fail
          refine ret_below (HGD.out _ hbw1) ?_
          intro w2 hb2
          have hbw2 := below_trans hbw1 hb2
          have HP2 := Lib.hid (HP1.out.below hb2)
          clear p0 p1 p2
          have p0 := HP2.out.c0
          have p1 := HP2.out.c1
          have p2 := HP2.out.c2
          have u1 := (hbw2.cell (p := ⟨b, off + 1, none⟩) hb0).trans q1
          go_wp2_with fail
          refine ret_below (HES.out _ hbw2) ?_
          intro w3 hb3
          have hbw3 := below_trans hbw2 hb3
          have HP3 := Lib.hid (HP2.out.below hb3)
          clear p0 p1 p2
          have p0 := HP3.out.c0
          have p1 := HP3.out.c1
          have p2 := HP3.out.c2
          go_wp2_with fail
          go_ret2
          exact ShErr.nil _ hbw3
        | true =>
          rw [hin] at HES
          by_cases hfew : n ≤ S.length
          · have he := xpE_few (p := p) (n := n) (h := h) HGT.out HLN.out hin (.inl hfew)
            rw [xpL_no (by rw [he]; decide), he]
            have f1 : (n : Int) ≤ (S.length : Int) := by omega
            clear he hin
            go_enter Tryd.func40, Tryd.ntmps40
            go_wp2_with fail
            refine ret_below HV.out ?_
            intro w1 hb1
            have hbw1 := below_trans (below_alloc _ _) hb1
            have HP1 := Lib.hid ((PlanCell.new (w := w) p n h rfl).below hb1)
            have p0 := HP1.out.c0
            have p1 := HP1.out.c1
            have p2 := HP1.out.c2
            go_wp2_with fail
            refine ret_below (HGD.out _ hbw1) ?_
            intro w2 hb2
            have hbw2 := below_trans hbw1 hb2
            have HP2 := Lib.hid (HP1.out.below hb2)
            clear p0 p1 p2
            have p0 := HP2.out.c0
            have p1 := HP2.out.c1
            have p2 := HP2.out.c2
            have u1 := (hbw2.cell (p := ⟨b, off + 1, none⟩) hb0).trans q1
            go_wp2_with fail
            refine ret_below (HES.out _ hbw2) ?_
            intro w3 hb3
            have hbw3 := below_trans hbw2 hb3
            have HP3 := Lib.hid (HP2.out.below hb3)
            clear p0 p1 p2
            have p0 := HP3.out.c0
            have p1 := HP3.out.c1
            have p2 := HP3.out.c2
            go_wp2_with fail
            go_ret2
            exact ShErr.nil _ hbw3
          by_cases hbig : 2048 < sec.length
          · have he := xpE_few (p := p) (n := n) (h := h) HGT.out HLN.out hin (.inr hbig)
            rw [xpL_no (by rw [he]; decide), he]
            have f0 : ¬ ((n : Int) ≤ ((S.length : Nat) : Int)) := by omega
            have f1 : (2048 : Int) < (sec.length : Int) := by omega
            clear he hin
            go_enter Tryd.func40, Tryd.ntmps40
            go_wp2_with fail
            refine ret_below HV.out ?_
            intro w1 hb1
            have hbw1 := below_trans (below_alloc _ _) hb1
            have HP1 := Lib.hid ((PlanCell.new (w := w) p n h rfl).below hb1)
            have p0 := HP1.out.c0
            have p1 := HP1.out.c1
            have p2 := HP1.out.c2
            go_wp2_with fail
            refine ret_below (HGD.out _ hbw1) ?_
            intro w2 hb2
            have hbw2 := below_trans hbw1 hb2
            have HP2 := Lib.hid (HP1.out.below hb2)
            clear p0 p1 p2
            have p0 := HP2.out.c0
            have p1 := HP2.out.c1
            have p2 := HP2.out.c2
            have u1 := (hbw2.cell (p := ⟨b, off + 1, none⟩) hb0).trans q1
            go_wp2_with fail
            refine ret_below (HES.out _ hbw2) ?_
            intro w3 hb3
            have hbw3 := below_trans hbw2 hb3
            have HP3 := Lib.hid (HP2.out.below hb3)
            clear p0 p1 p2
            have p0 := HP3.out.c0
            have p1 := HP3.out.c1
            have p2 := HP3.out.c2
            go_wp2_with fail
            go_ret2
            exact ShErr.nil _ hbw3
          have he := xpE_ok (p := p) (n := n) (h := h) HGT.out HLN.out hin (fun e => e.elim (fun e => by have := HZ.out; omega) hbig)
          rw [xpL_ok he, he]
          obtain ⟨hSN, hg⟩ := gd_nat (gdB_of HGT.out)
          obtain ⟨e1, e2⟩ := inside_nat hin
          have hs1 : (sec.map Int.toNat).length = sec.length := by simp
          have hSNl : (sec.map Int.toNat).length ≤ 2048 := by omega
          have hAn : NatsAt w B (sec.map Int.toNat) := IntsAt.nats (by rw [e1]; exact HI.out)
          have HAN := Lib.hid hAn
          have HG := Lib.hid hg
          have HSP := Lib.hid e2
          have HS1 := Lib.hid hs1
          have hNl : (natL S).length = S.length := by have h1 := natL_len S; have h2 := HZ.out; omega
          have HNL := Lib.hid hNl
          have HVL := Lib.hid (show ∀ k, k < (natL S).length → (vN (natL S) k).length = sec.length from fun k hk => by
            have hk' : k < S.length := by rw [natL_len] at hk; exact hk
            have h1 := hg.len k hk
            have h2 : (vN (natL S) 0).length = (vS S 0).length := by
              conv => rhs; rw [hSN]
              rw [vS_shL, len_ofN]
            rw [h1, h2]
            exact HLN.out.resolve_left (by omega))
          have HNS : Hid (ShP P0 w (some ⟨b, off, none⟩) ca (shL (natL S))) := by rw [← hSN]; exact HS.out
          have hf0 : ¬ ((n : Int) ≤ ((S.length : Nat) : Int)) := by omega
          have hf1 : ¬ ((2048 : Int) < (sec.length : Int)) := by omega
          have hnl2 : S.length + 1 ≤ n := by omega
          have hhl : (hsN (natL S)).length = S.length := by rw [hsN_len]; exact hNl
          have HXLT := Lib.hid (show ∀ x ∈ hsN (natL S), x < p from fun x hx => by have := hs_rng hg x hx; omega)
          have HHO := Lib.hid (fun (W : World) (hb : Below w.heap.size w W) => holders_any (some ⟨b, off, none⟩) ca (natL S) W (HNS.out.below hb) (by rw [HNL.out]; omega))
          rw [hNl] at HHO
          have HVA := Lib.hid (fun (i : Nat) (hi : i < sec.length) (W : World) (hb : Below w.heap.size w W) => values_any (some ⟨b, off, none⟩) ca (natL S) i W (HNS.out.below hb) (by rw [HNL.out]; omega) (fun k hk => by rw [HVL.out k hk]; exact hi) (by omega))
          rw [hNl] at HVA
          have HHL := Lib.hid hhl
          have hcl : ∀ i, (colN (natL S) i).length = S.length := fun i => by rw [colN_len]; exact hNl
          have HCL := Lib.hid hcl
          clear he hin hbig hSN hg e1 e2 hs1 hAn hNl hhl hcl HS HI HZ HLN HGT
          generalize sec.map Int.toNat = SN at *
          generalize natL S = N at *
          go_enter Tryd.func40, Tryd.ntmps40
          go_wp2_with fail
          refine ret_below HV.out ?_
          intro w1 hb1
          have hbw1 := below_trans (below_alloc _ _) hb1
          have HP1 := Lib.hid ((PlanCell.new (w := w) p n h rfl).below hb1)
          have p0 := HP1.out.c0
          have p1 := HP1.out.c1
          have p2 := HP1.out.c2
          go_wp2_with fail
          refine ret_below (HGD.out _ hbw1) ?_
          intro w2 hb2
          have hbw2 := below_trans hbw1 hb2
          have HP2 := Lib.hid (HP1.out.below hb2)
          clear p0 p1 p2
          have p0 := HP2.out.c0
          have p1 := HP2.out.c1
          have p2 := HP2.out.c2
          have u1 := (hbw2.cell (p := ⟨b, off + 1, none⟩) hb0).trans q1
          go_wp2_with fail
          refine ret_below (HES.out _ hbw2) ?_
          intro w3 hb3
          have hbw3 := below_trans hbw2 hb3
          have HP3 := Lib.hid (HP2.out.below hb3)
          clear p0 p1 p2
          have p0 := HP3.out.c0
          have p1 := HP3.out.c1
          have p2 := HP3.out.c2
          go_wp2_with fail
          refine (HHO.out _ (hbw3.trans ((below_alloc _ _).mono hbw3.size))).mono ?_
          intro e w4 hnl
          obtain ⟨X0, c0x, rfl, hX0, hXo, -, hb4⟩ := hnl.open_
          have hbw4 : Below w3.heap.size w3 w4 := below_trans (below_alloc _ _) hb4
          have HO0 := Lib.hid (own_below ((lit1_nats w3 0).own (Nat.le_refl w3.heap.size) (by unfold maxLen; simp)) hb4)
          have hsz4 := hbw4.size
          have HX0 := Lib.hid hX0
          have HXO := Lib.hid hXo
          clear hnl hX0 hXo p0 p1 p2 hb4
          have HP4 := Lib.hid (HP3.out.below hbw4)
          have p0 := HP4.out.c0
          have p1 := HP4.out.c1
          have p2 := HP4.out.c2
          have lp4 := HP4.out.lt
          have HX1 : Hid ([0] ++ hsN N = xpX (hsN N) 0) := by unfold xpX fillN; exact (List.append_nil _).symm
          have hxl := xpX_len (hsN N) 0
          rw [HHL.out] at hxl
          have hx00 : (fillN (hsN N) 0).length = 0 := rfl
          rw [hx00] at hxl
          have HXLE := Lib.hid hxl
          clear hxl
          generalize hHS : hsN N = hs at *
          have HHS := Lib.hid hHS
          clear hHS hx00
          go_wp2_with (at_builtin; refine app_sl rfl (.tmp 57) (.tmp 59) rfl (base := w3.heap.size) (v := .slice (some ⟨w3.heap.size, 0, none⟩) 1 1) (S := [0]) hs X0 c0x rfl HO0.out rfl HX0.out (sl_none HXO.out) (.inr HXO.out.spot) (by simp only [List.length_cons, List.length_nil]; rw [HHL.out]; omega) hsz4 ?_; intro v5 w5 hown5 hb5; rw [HX1.out] at hown5; have q15 := (hb5.cell (p := ⟨w.heap.size, 1, none⟩) (by have := HP3.out.lt; simpa using this)).trans p1; obtain ⟨X5, x5c, rfl, -, -, -⟩ := own_sl hown5 rfl; have HO5 := Lib.hid hown5; clear hown5)
          have hbw5 : Below w3.heap.size w3 w5 := hbw4.trans hb5
          have HP5 := Lib.hid (HP3.out.below hbw5)
          have hsz5 := hbw5.size
          clear p0 p1 p2 q15 HX0 HXO HO0 hb5 hbw4 hsz4 HP4
          go_loopw [8, 9] (fun v i wr => ∃ j : Nat, i = .int .i64 ((j : Int) + 1) ∧ (xpX hs j).length ≤ n ∧ wr.ownsRow w3.heap.size 3 1 v (xpX hs j).length (valsN (xpX hs j)) ∧ Below w3.heap.size w3 wr) (fun _ i _ => n - (intOf i).toNat)
          case atStart => exact ⟨0, rfl, by have := HXLE.out; omega, HO5.out, hbw5⟩
          case round =>
            obtain ⟨j, rfl, hjl, hown, hbr⟩ := hrel
            have hmany := xpX_many hs j
            have hbwr := below_trans hbw3 hbr
            have hszr := hbr.size
            have hPr := HP3.out.below hbr
            have q0 := hPr.c0
            have q1 := hPr.c1
            have q2 := hPr.c2
            have HPr := Lib.hid hPr
            clear hPr
            obtain ⟨XA, xc, rfl, hXA, hXO, hXb⟩ := own_sl hown rfl
            have HXA := Lib.hid hXA
            have HXO := Lib.hid hXO
            have HXB := Lib.hid hXb
            have HOW := Lib.hid hown
            clear hXA hXO hXb hown
            by_cases hlt : (xpX hs j).length < n
            · have HCN := Lib.hid (containsN_any XA (xpX hs j) (j + 1) xc wr HXA.out (by omega))
              have HJL := Lib.hid hlt
              by_cases hmem : (j + 1) ∈ hs
              · rw [decide_eq_true (xpX_mem.2 hmem)] at HCN
                have HXE := Lib.hid (xpX_held hmem)
                clear hmem
                generalize hXX : xpX hs j = X at *
                go_wp2_with fail
                refine ret_below HCN.out ?_
                intro w6 hb6
                go_wp2_with fail
                go_roundw
                case rel => exact ⟨j + 1, by go_num, by rw [HXE.out]; exact hjl, by rw [HXE.out]; exact own_below HOW.out hb6, hbr.trans (hb6.mono hszr)⟩
                case measure => simp [intOf]; omega
              · rw [decide_eq_false (fun g => hmem (xpX_mem.1 g))] at HCN
                have HXE := Lib.hid (xpX_new hmem)
                clear hmem
                generalize hXX : xpX hs j = X at *
                go_wp2_with fail
                refine ret_below HCN.out ?_
                intro w6 hb6
                have HO6 := Lib.hid (own_below HOW.out hb6)
                have hsz6 : w3.heap.size ≤ w6.heap.size := Nat.le_trans hszr hb6.size
                have hb36 : Below w3.heap.size w3 w6 := hbr.trans (hb6.mono hszr)
                go_wp2_with (at_builtin; refine app_nats rfl (.tmp 72) (.tmp 74) rfl (base := w3.heap.size) (S := X) (T := [j + 1]) rfl (HO6.out.alloc _) rfl ((lit1_at _ _ (j + 1) rfl).nats.news rfl) (by simp; omega) (by simp; omega) ?_; intro v7 w7 hown7 hg7 hb7)
                go_roundw
                case rel => exact ⟨j + 1, by go_num, by rw [HXE.out, List.length_append]; simp; omega, by rw [HXE.out]; exact hown7, hb36.trans (below_of_alloc hb7 hsz6)⟩
                case measure => simp [intOf]; omega
            · have hxn : (xpX hs j).length = n := by omega
              have hjp : j < p := by omega
              have HTR := Lib.hid (fun e => thR_xp (sec := SN) HPN.out HG.out hjp e)
              have HRW := Lib.hid (xp_rows HPN.out HG.out HSP.out hjp)
              have hfl : N.length + 1 + (fillN (hsN N) j).length = n := by
                have := xpX_len hs j
                rw [HHL.out] at this
                rw [HNL.out, HHS.out]; omega
              have HXM := Lib.hid (xpM_of (p := p) (h := h) (sec := SN) hfl)
              have HXP := Lib.hid (show ∀ y ∈ xpX hs j, y < p from xpX_lt HXLT.out hjp)
              have HYP := Lib.hid (fun e => xpY_lt (K := N) (sec := SN) (c := (fillN (hsN N) j).length) (e := e) (p := p) (by omega) (fun k hk => (HG.out.rng k hk).2.2) HSP.out)
              have HYL := Lib.hid (fun e => xpY_len N SN (fillN (hsN N) j).length e)
              have hcN : (fillN (hsN N) j).length + (S.length + 1) = n := by rw [HNL.out] at hfl; omega
              have HYE := Lib.hid (fun e => xpY_lit N SN (fillN (hsN N) j).length e)
              have HRL := Lib.hid (show (explN p h N SN j).length = h by unfold explN; exact exN_len _ _ _ _ _)
              rw [HHS.out] at HTR HRW HYP HYL HYE hcN
              generalize (fillN hs j).length = cF at *
              generalize explN p h N SN j = RES at *
              clear hfl hmany
              generalize hXX : xpX hs j = X at *
              have HXN := Lib.hid hxn
              go_wp2_with fail
              refine (newDealer_any p n h _ (by omega)).mono ?_
              rintro e w6 ⟨d, base, rfl, hdw, hD, hb6⟩
              have hdb := hD.1
              have hdz := hD.2.1
              have HD0 : Hid (DlrAt w6 d base p n h (exT p h 0 (fun e => thN p X (xpY N SN cF e)))) := by rw [exT_zero]; exact hD
              clear hD q0 q1 q2 HOW
              go_wp2_with fail
              go_loopw [80] (fun i wr => ∃ m : Nat, m ≤ sec.length ∧ i = .int .i64 m ∧ DlrAt wr d base p n h (exT p h m (fun e => thN p X (xpY N SN cF e))) ∧ Below base w6 wr) (fun i _ => sec.length - (intOf i).toNat)
              case atStart => exact ⟨0, Nat.zero_le _, rfl, HD0.out, Below.refl _ _⟩
              case round =>
                obtain ⟨m, hm, rfl, hDl, hbl⟩ := hrel
                have hbl6 := hb6.trans (hbl.mono (by omega))
                have hbwl := below_trans hbwr hbl6
                have HDl := Lib.hid hDl
                have hDB : base ≤ wr.heap.size := hDl.2.1
                clear hDl
                by_cases hlm : m < sec.length
                · obtain ⟨bA, oA, rfl, hbA, hcA⟩ := (HAN.out.below hbwl) m (by rw [HS1.out]; exact hlm)
                  have HST := Lib.hid (exT_succ p h m (fun e => thN p X (xpY N SN cF e)))
                  have HPl := Lib.hid (HPr.out.below hbl6)
                  have q0 := HPl.out.c0
                  have hxs : nthN SN m < p := nthN_lt (by omega) HSP.out m
                  have HVm := Lib.hid (HVA.out m hlm)
                  have HYm := Lib.hid (HYE.out m)
                  have HYLm := Lib.hid (HYL.out m)
                  have HYPm := Lib.hid (HYP.out m)
                  have HTm := Lib.hid (HTR.out m)
                  have HCm := Lib.hid (HCL.out m)
                  have HTL := Lib.hid (exT_len p h m (fun e => thN p X (xpY N SN cF e)))
                  have HTA := Lib.hid (fun j (hj : j < h) => exT_at (p := p) (m := m) (F := fun e => thN p X (xpY N SN cF e)) hj)
                  generalize hF : thN p X (xpY N SN cF m) = f at HTm HST
                  have hfl : f.length ≤ n := by rw [← hF]; exact Nat.le_trans (thN_len _ _ _) (by rw [HXN.out]; exact Nat.le_refl _)
                  have HFP := Lib.hid (show ∀ x ∈ f, x < p by rw [← hF]; exact thN_lt (by omega) _ _)
                  clear hF
                  generalize exT p h m (fun e => thN p X (xpY N SN cF e)) = T at *
                  generalize xpY N SN cF m = Y at *
                  generalize nthN SN m = x at *
                  generalize colN N m = col at *
                  have HX7 := Lib.hid (HXA.out.below hbl6)
                  go_wp2_with fail
                  refine (HVm.out _ (hbwl.trans ((below_alloc _ _).mono hbwl.size))).mono ?_
                  intro e w7 hnl
                  obtain ⟨V7, v7c, rfl, hV7, hVo, -, hb7⟩ := hnl.open_
                  have hbw7 : Below wr.heap.size wr w7 := below_trans (below_alloc _ _) hb7
                  have HO7 := Lib.hid (own_below ((lit1_nats wr x).own (Nat.le_refl wr.heap.size) (by unfold maxLen; simp)) hb7)
                  have hsz7 := hbw7.size
                  have HV7 := Lib.hid hV7
                  have HVO := Lib.hid hVo
                  obtain ⟨zs, hzs⟩ : ∃ zs, zs = [x] ++ col := ⟨_, rfl⟩
                  have hzl : zs.length = 1 + S.length := by rw [hzs, List.length_append, HCm.out]; rfl
                  have HZS := Lib.hid hzs.symm
                  rw [← hzs] at HYm
                  have ecs : IntKind.i64.wrap ((n : Int) - (zs.length : Int)) = (cF : Int) := by rw [IntWalk.i64_in _ (by omega)]; omega
                  have hcol1 : zs.length ≤ 8 := by omega
                  have hcol0 : 0 < zs.length := by omega
                  have HZL := Lib.hid hzl
                  clear hzs hzl
                  have HT0 := Lib.hid (fun (W : World) (Ya : Option Addr) (yc : Nat) (hX : NatsAt W XA X) (hY : NatsAt W Ya Y) => through_any p XA Ya X Y xc yc W (by omega) (by omega) hX hY HXP.out HYPm.out (by rw [HXN.out]; omega))
                  rw [HTm.out.1, HTm.out.2, HXN.out] at HT0
                  clear hnl hV7 hVo hb7
                  have HDEAL := Lib.hid (fun (W : World) (Fa : Option Addr) (fc : Nat) (hb : Below wr.heap.size wr W) (hF : NatsAt W Fa f) (hFb : ∀ b off, Fa = some ⟨b, off, none⟩ → wr.heap.size ≤ b ∧ b < W.heap.size) => deal_goT HDl.out hb hF hFb fc (show 1 ≤ p by omega) (by omega) HFP.out (fun j hj => by rw [HTL.out] at hj; obtain ⟨g1, g2⟩ := HTA.out j hj; rw [g1, g2]; exact ⟨by omega, by simp; omega⟩) (by rw [HTL.out]; omega) (by omega))
                  have q07 := (hbw7.cell (p := ⟨w.heap.size, 0, none⟩) (by have := HPl.out.lt; simpa using this)).trans q0
                  have lpl := HPl.out.lt
                  go_wp2_with (first
                    | (at_builtin; refine app_sl rfl (.tmp 86) (.tmp 89) rfl (base := wr.heap.size) (v := .slice (some ⟨wr.heap.size, 0, none⟩) 1 1) (S := [x]) col V7 v7c rfl HO7.out rfl HV7.out (sl_none HVO.out) (.inr HVO.out.spot) (by simp only [List.length_cons, List.length_nil]; rw [HCm.out]; omega) hsz7 ?_; intro v8 w8 hown8 hb8; rw [HZS.out] at hown8; have hbw8 : Below wr.heap.size wr w8 := hbw7.trans hb8; have hsz8 := hbw8.size; obtain ⟨Y8, y8c, rfl, -, -, -⟩ := own_sl hown8 rfl; have HO8 := Lib.hid hown8; clear hown8)
                    | (at_builtin; refine app_zeros rfl (.tmp 91) (.tmp 96) rfl (base := wr.heap.size) (S := zs) cF rfl HO8.out hcol0 rfl (by omega) hsz8 ?_; intro v9 w9 hown9 hb9; rw [HYm.out] at hown9; have hbw9 : Below wr.heap.size wr w9 := hbw8.trans hb9; have q09 := (hbw9.cell (p := ⟨w.heap.size, 0, none⟩) lpl).trans q0; obtain ⟨Y9, y9c, rfl, hY9, -, -⟩ := own_sl hown9 rfl; have HY9 := Lib.hid hY9; clear hY9 hown9)
                    | (go_at_call 63; refine (HT0.out _ Y9 y9c (HX7.out.below hbw9) HY9.out).mono ?_; rintro e w10 ⟨Fa, fc, rfl, hFN, hFO, hFb, hb10⟩; have hbw10 : Below wr.heap.size wr w10 := below_trans hbw9 hb10; have HFN := Lib.hid hFN; have HFB := Lib.hid (show ∀ b off, Fa = some ⟨b, off, none⟩ → wr.heap.size ≤ b ∧ b < w10.heap.size from fun b off e => ⟨Nat.le_trans hbw9.size (hFb b off e).1, (hFb b off e).2⟩); clear hFN hFb)
                    | (go_at_call 46; refine (HDEAL.out _ Fa fc hbw10 HFN.out HFB.out).mono ?_; rintro e w11 ⟨rfl, hD11, hb11⟩))
                  have HD11 := Lib.hid (And.intro hD11 (hbl.trans ((hbw10.mono hDB).trans hb11)))
                  clear hD11 hb11
                  go_roundw
                  case rel => exact ⟨m + 1, by omega, by go_num, by rw [← HST.out]; exact HD11.out.1, HD11.out.2⟩
                  case measure => simp [intOf]; omega
                · obtain rfl : m = sec.length := by omega
                  obtain ⟨-, -, v, H, hbox, hR2⟩ := HDl.out
                  obtain ⟨XR, cx, rfl, hXR⟩ := hR2.read
                  obtain ⟨-, c3, -⟩ := dlr_box hbox
                  have hRE : exT p h sec.length (fun e => thN p X (xpY N SN cF e)) = RES := by
                    have := HRW.out
                    rw [HS1.out] at this
                    exact this
                  have hX2 : ShP (fun b => w.heap.size ≤ b) wr XR cx (shL RES) := by rw [← hRE]; exact hXR.mono (fun b _ hb => by have := hbwr.size; omega)
                  have hlen : RES.length = (exT p h sec.length (fun e => thN p X (xpY N SN cF e))).length := by rw [hRE]
                  have HX := Lib.hid (And.intro hX2 hlen)
                  clear hXR hX2 hlen hbox hR2 hRE
                  go_wp2_with fail
                  go_ret2
                  rw [HXM.out]
                  exact ⟨XR, cx, by rw [shL_len, HX.out.2]; rfl, HX.out.1, hbwl⟩

      · have he := xpE_len (p := p) (n := n) (h := h) (sec := sec) (S := S) (fun e => e.elim (fun e => by omega) hsl)
        have t0 : (((vS S 0).length : Int) != (sec.length : Int)) = true := by simp; omega
        rw [xpL_no (by rw [he]; decide), he]
        clear hsl he
        go_enter Tryd.func40, Tryd.ntmps40
        go_wp2_with fail
        refine ret_below HV.out ?_
        intro w1 hb1
        have hbw1 := below_trans (below_alloc _ _) hb1
        have HP1 := Lib.hid ((PlanCell.new (w := w) p n h rfl).below hb1)
        have p0 := HP1.out.c0
        have p1 := HP1.out.c1
        have p2 := HP1.out.c2
        go_wp2_with fail
        refine ret_below (HGD.out _ hbw1) ?_
        intro w2 hb2
        have hbw2 := below_trans hbw1 hb2
        have HP2 := Lib.hid (HP1.out.below hb2)
        clear p0 p1 p2
        have p0 := HP2.out.c0
        have p1 := HP2.out.c1
        have p2 := HP2.out.c2
        have u1 := (hbw2.cell (p := ⟨b, off + 1, none⟩) hb0).trans q1
        go_wp2_with fail
        go_ret2
        exact ShErr.nil _ hbw2
end Go.Proofs.YtkjpnhhkebbmdaaDoor
namespace Go.Proofs.YtkjpnhhkebbmdaaDoor
open Go.RowKit

theorem turn_zero {P : Nat → Prop} (D : Nat) (R : List Int) (A : Option Addr) (c k : Nat) (N : List ShN) (w : World) (hd : DiceAt w D R) (hS : ShP P w A c (shL N)) (hsh : Short (shL N)) (hl : N.length ≤ 100000) (hk : k = N.length) :
    Calls Tryd.prog 26 #[.pointer (some ⟨D, 0, none⟩), .slice A k c, .int .i64 0] w (TurnM D N 0 w) :=
  turn_made D R A c k N 0 w hd hS hsh hl (by omega) hk
theorem natL_at {N : List ShN} : natL (shL N) = N := natL_shL N
theorem explain_made {P0 : Nat → Prop} {p n h : Nat} (P : PlanN p n h) {A B : Option Addr} {ca cb k j : Nat} {K : List ShN} {oth : List Nat} {w : World} (hB : Bases w) (hS : ShP P0 w A ca (shL K)) (hI : NatsAt w B oth) (hk : k = K.length) (hj : j = oth.length)
    (hg : GoodN p h K) (ho : ∀ x ∈ oth, x < p) (hn : K.length < n) (hm : ∀ i, i < K.length → (vN K i).length = oth.length) (hl : oth.length ≤ 2048) :
    Calls Tryd.prog 40 #[planV p n h, .slice A k ca, .slice B j cb] w (DealR (xpM p n h K oth) h w) := by
  subst hk hj
  have hsh : Short (shL K) := fun i hi => by
    rw [shL_len] at hi
    rw [vS_shL, len_ofN, hm i hi]; omega
  have hgd : gdB p h (shL K) = true := (gdB_yes (gd_back hg)).symm
  have hln : (shL K).length = 0 ∨ (vS (shL K) 0).length = (ofN oth).length := by
    rcases Nat.eq_zero_or_pos K.length with e | e
    · exact .inl (by rw [shL_len]; exact e)
    · exact .inr (by rw [vS_shL, len_ofN, len_ofN, hm 0 e])
  have he : xpE p n h (shL K) (ofN oth) = 0 := xpE_ok hgd hln (nat_inside ho) (fun e => by rw [shL_len, len_ofN] at e; omega)
  have := explain_any P A B ca cb (shL K) (ofN oth) w hB hS hsh (by rw [shL_len]; have := P.h7; have := P.nh; omega) hI.ints (by rw [len_ofN]; omega)
  rw [he, xpL_ok he, natL_shL, toNat_ofN, shL_len, len_ofN] at this
  refine this.mono ?_
  rintro e w' ⟨A', c', rfl, h1, h2⟩
  exact ⟨A', c', by rw [shL_len, xpM_len], h1, h2⟩
/-- One share of a list, as a list. -/
theorem ShP.one {P : Nat → Prop} {w : World} {b off c n : Nat} {N : List ShN} (h : ShP P w (some ⟨b, off, none⟩) c (shL N)) (hn : n < N.length) : ShP P w (some ⟨b, off + n * 2, none⟩) (c - n) (shL [(hN N n, vN N n)]) := by
  have h1 := (h.drop hn).take 1
  rw [shL_take] at h1
  have : (N.drop n).take 1 = [(hN N n, vN N n)] := by
    rw [List.drop_eq_getElem_cons hn, List.take_succ_cons, List.take_zero, getD_at hn]
  rw [this] at h1; exact h1
theorem short_shL1 {x : Nat} {L : List Nat} (h : L.length ≤ 1048576) : Short (shL [(x, L)]) := short_shL fun k hk => by
  have hk0 : k = 0 := by simp at hk; omega
  subst hk0; exact h
/-- A literal of one share. -/
theorem lit_sh1 {P : Nat → Prop} {w : World} {g c : Nat} {x : Int} {B : Option Addr} {L : List Int} (hw : w.heap[g]? = some (.cells #[.int .i64 x, .slice B L.length c] 47 (0, 0))) (hP : P g) (hI : IntsP P w B c L) : ShP P w (some ⟨g, 0, none⟩) 1 [(x, L)] := by
  refine ⟨fun k hk => ?_, ⟨by simp, by unfold maxLen; omega, (fun e => by cases e), .inr (fun a e => by injection e with e; subst e; rfl)⟩⟩
  have hk0 : k = 0 := by simp at hk; omega
  subst hk0
  refine ⟨g, 0, B, c, rfl, blk_lt hw, hP, ?_, ?_, hI⟩
  · rw [cell_of_row w g _ _ _ (0, 0) hw]; rfl
  · rw [cell_of_row w g _ _ _ (0, 0) hw]; rfl
end Go.Proofs.YtkjpnhhkebbmdaaDoor
namespace Go.Proofs.YtkjpnhhkebbmdaaDoor
open Go.RowKit

attribute [local go_sem high] sliced_low
set_option maxRecDepth 100000 in
set_option maxHeartbeats 4000000 in
theorem shareHides_walk (A0 : Option Addr) (L0 : List Int) (c0 : Nat) (w : World) (hB : Bases w) (hl0 : L0.length ≤ maxLen) (hI0 : IntsAt w A0 L0) (_ : ∀ n ∈ L0, -9223372036854775808 ≤ n ∧ n ≤ 9223372036854775807) :
    Calls Tryd.prog 9 #[.slice A0 L0.length c0] w (RetB (.bool true) w) := by
  have HB := Lib.hid hB
  clear hB
  by_cases hlight : (L0.length : Int) ≤ 500
  · have hL := light_any A0 L0.length c0 w
    rw [decide_eq_true hlight] at hL
    have HLt := Lib.hid hL
    clear hL hlight
    go_enter Tryd.func9, Tryd.ntmps9
    go_wp2_with fail
    refine ret_pure HLt.out ?_
    clear HLt
    go_wp2_with fail
    refine (roll_any A0 L0 c0 _ hl0 hI0).mono ?_
    rintro e w1 ⟨D, rfl, hDs, hD, hb1⟩
    have hE1 : Env w w1 D L0 := ⟨hD, hDs, hb1⟩
    clear hI0 hD hb1
    go_wp2_with fail
    refine (prime_any D L0 _ hE1.dice).mono ?_
    rintro e w2 ⟨p, rfl, hpp, hp5, -, hD2, hg2⟩
    have hE2 := hE1.next hD2 hg2
    have h2 := hpp.1
    have h1 : 1 ≤ p := by omega
    have hp2 : p ≤ 2147483648 := by omega
    have HPP := Lib.hid hpp
    clear hg2 hD2 hE1 hpp
    go_wp2_with fail
    refine (plan_any D _ p _ hE2.dice h2 hp2).mono ?_
    rintro e w3 ⟨n, h, R3, rfl, ⟨hn1, hnh, hh7, hhp⟩, hD3, hg3⟩
    have hE3 := hE2.next hD3 hg3
    have HPN := Lib.hid (PlanN.mk' HPP.out (by omega) hn1 hnh hh7 hhp)
    clear hD3 hg3 hE2
    go_wp2_with fail
    refine gen_world fun w4 hw4 => ?_
    have hpc : PlanCell w4 w3.heap.size p n h := by rw [hw4]; exact PlanCell.new _ _ _ rfl
    have hE4 : Env w w4 D R3 := hE3.mv (by rw [hw4]; exact below_alloc _ _)
    have hxD : w3.heap.size ≠ D := by have := hE3.lt; omega
    have hlx := hpc.lt
    have p0 := hpc.c0
    have p1 := hpc.c1
    have p2 := hpc.c2
    have HPC := Lib.hid hpc
    generalize w3.heap.size = px at *
    clear hw4 hE3 hpc
    go_region_held3 (fun w' => w'.cell? ⟨px, 0, none⟩ = some (.int .i64 (p : Int)) ∧ w'.cell? ⟨px, 1, none⟩ = some (.int .i64 (n : Int)) ∧ w'.cell? ⟨px, 2, none⟩ = some (.int .i64 (h : Int))) (first | go_keep)
      (first
        | (go_at_call 17; refine (next_nat D _ 3 _ (by exact hE4.dice) (by omega) (by omega)).mono ?_; rintro e w5 ⟨m0, rfl, hm0, hD5, hg5⟩; have hg5' : w4.grownBy w5 (some D) := (grown_undrew hg5); have hE5 := hE4.next hD5 hg5'; have HP5 := Lib.hid (HPC.out.mv hg5' hxD); have q0 := HP5.out.c0; have q1 := HP5.out.c1; have q2 := HP5.out.c2; have ew : IntKind.i64.wrap (1 + (m0:Int)) = 1 + (m0:Int) := (IntWalk.i64_in _ (by omega)))
        | (go_at_call 16; refine (elements_at D _ p (1 + m0) _ _ (by omega) hE5.dice h1 hp2 (by omega)).mono ?_; intro e w6 he; obtain ⟨SA, sc, sec, R6, rfl, hsl, hsp, hS, hD6, hg6⟩ := elems_held hE5.lt he; have HSL := Lib.hid hsl; clear hsl; have hE6 := hE5.next hD6 hg6; have HP6 := Lib.hid (HP5.out.mv hg6 hxD); have r0 := HP6.out.c0; have r1 := HP6.out.c1; have r2 := HP6.out.c2))
    have HSEC := Lib.hid hS
    have HSP := Lib.hid hsp
    have hsl1 : sec.length ≤ 4 := by have := HSL.out; omega
    have hsl2 : 1 ≤ sec.length := by have := HSL.out; omega
    have lx6 := HP6.out.lt
    clear he hS hsp hD6 hg6 hE5 hD5 hg5 hg5' hE4 q0 q1 q2 p0 p1 p2 HP5 HPC HSL hm0 ew
    go_wp2_with fail
    have hrb : (sec.length : Int) * ((n : Int) - 1) = ((sec.length * (n - 1) : Nat) : Int) := by rw [show ((n : Int) - 1) = ((n - 1 : Nat) : Int) by omega]; push_cast; rfl
    obtain ⟨rl, hrl⟩ : ∃ rl, rl = sec.length * (n - 1) := ⟨_, rfl⟩
    have hrl2 : rl ≤ 100 := by rw [hrl]; have := Nat.mul_le_mul hsl1 (show n - 1 ≤ 7 by omega); omega
    have HRN := Lib.hid (fun (W : World) => random_any p n h sec.length W (by omega) (by omega) (by omega) (by omega))
    rw [hrb, ← hrl] at HRN
    have HRL := Lib.hid hrl
    clear hrb hrl
    go_region_held3 (fun w' => w'.cell? ⟨px, 0, none⟩ = some (.int .i64 (p : Int)) ∧ w'.cell? ⟨px, 1, none⟩ = some (.int .i64 (n : Int)) ∧ w'.cell? ⟨px, 2, none⟩ = some (.int .i64 (h : Int))) (first | go_keep)
      (first
        | (go_at_call 23; refine ret_below (HRN.out _) ?_; intro w7 hb7; have hb7' : Below w6.heap.size w6 w7 := (below_undrew1 hb7); have hE7 := hE6.mv hb7'; have HP7 := Lib.hid (HP6.out.below hb7'); have q0 := HP7.out.c0; have q1 := HP7.out.c1; have q2 := HP7.out.c2)
        | (go_at_call 16; refine (elements_any D _ p rl _ hE7.dice h1 hp2 (by omega)).mono ?_; intro e w8 he; obtain ⟨RA, rc, ran, R8, rfl, hrnl, hrp, hR, hD8, hg8⟩ := elems_held hE7.lt he; have HRNL := Lib.hid hrnl; clear hrnl; have hE8 := hE7.next hD8 hg8; have HP8 := Lib.hid (HP7.out.mv hg8 hxD); have s0 := HP8.out.c0; have s1 := HP8.out.c1; have s2 := HP8.out.c2; have HSEC8 := Lib.hid ((HSEC.out.below hb7').mv hg8))
        | (go_at_call 20; refine (deal_made HPN.out (hE8.bases HB.out) HSEC8.out.nats hR.nats hR.ok (by omega) HSP.out hrp (by exact HRNL.out.trans HRL.out) (by have := HRNL.out; omega) rfl rfl).mono ?_; rintro e w9 ⟨NA, nc, rfl, hN, hb9⟩; have hE9 := hE8.mv hb9; have HP9 := Lib.hid (HP8.out.below hb9); have HSEC9 := Lib.hid (HSEC8.out.below hb9); have HN := Lib.hid (hN.away hE8.lt); have HMD := Lib.hid (deal_Made HPN.out HSP.out hrp); have HDL := Lib.hid (deal_len p n h sec ran); have HNA := HDL; clear hN; have t0 := HP9.out.c0; have t1 := HP9.out.c1; have t2 := HP9.out.c2))
    have lx9 := HP9.out.lt
    have HRP := Lib.hid hrp
    clear he hrp hR hD8 hg8 hE8 hE7 hE6 HP8 HP7 HP6 HSEC8 HSEC q0 q1 q2 s0 s1 s2 r0 r1 r2 hb9 hb7 hb7' HRN

    clear HRP HSEC9 HNA
    go_wp2_with fail
    refine (turn_zero D _ NA nc h (dealN p n h sec ran) _ hE9.dice (by exact HN.out) (by exact HMD.out.short (by omega)) (by rw [HDL.out]; omega) HDL.out.symm).mono ?_
    rintro e w10 ⟨TA, tc, M, R10, rfl, htp, htl, -, hTS, hD10, hg10⟩
    have hmh : M.length ≤ h := by rw [HDL.out] at htl; exact htl
    have HM := Lib.hid (HMD.out.part htp)
    have HT10 := Lib.hid hTS
    have hE10 := hE9.next hD10 hg10
    have HP10 := Lib.hid (HP9.out.mv hg10 hxD)
    have hE10l := hE10.lt
    have u0 := HP10.out.c0; have u1 := HP10.out.c1; have u2 := HP10.out.c2
    clear htp htl hTS hD10 hg10 hE9 HP9 t0 t1 t2 HN HMD HDL
    obtain ⟨ml, hml⟩ : ∃ ml, ml = M.length := ⟨_, rfl⟩
    rw [← hml]
    have hml1 : ml ≤ M.length := by omega
    have hml2 : M.length ≤ ml := by omega
    clear hml
    obtain ⟨q, hq⟩ : ∃ q, q + 1 = n := ⟨n - 1, by omega⟩
    have HTC := Lib.hid (show M.length ≤ tc by have h := HT10.out.cap; exact h)
    have ek : IntKind.i64.wrap ((n : Int) - 1) = (q : Int) := by rw [IntWalk.i64_in _ (by omega)]; omega
    have ek0 : (0 : Int) ≤ (q : Int) := by omega
    rcases Decidable.em ((q : Int) < (ml : Int)) with hc | hc
    · have hkm : q ≤ M.length ∧ q < n := by omega
      have hkn := hkm.2
      have HK := Lib.hid (show (M.take q).length = q by rw [List.length_take]; omega)
      have ek1 : (q : Int) ≤ (tc : Int) := by have := HTC.out; omega
      go_wp2_with fail
      refine (elements_any D _ p sec.length _ (by exact hE10.dice) h1 hp2 (by omega)).mono ?_
      intro e w11 he
      obtain ⟨OA, oc, oth, R11, rfl, hol, hop, hO, hD11, hg11⟩ := elems_held hE10.lt he
      have hE11 := hE10.next hD11 hg11
      have HP11 := Lib.hid (HP10.out.mv hg11 hxD)
      have HT11 := Lib.hid (HT10.out.mv hg11)
      have HO11 := Lib.hid hO
      have HOL := Lib.hid hol
      have HOP := Lib.hid hop
      have v0 := HP11.out.c0; have v1 := HP11.out.c1; have v2 := HP11.out.c2
      have ho1 : oth.length ≤ 4 := by omega
      clear he hol hop hO hD11 hg11 hE10 HP10 HT10 u0 u1 u2
      have HGD := Lib.hid ((HM.out.take q).good h1 (by omega))
      have HVK := Lib.hid (show ∀ i, i < (M.take q).length → (vN (M.take q) i).length = oth.length from fun i hi => by rw [(HM.out.take q).vlen hi]; exact HOL.out.symm)
      have HK' : Hid (q = (M.take q).length) := Lib.hid (show q = (M.take q).length by rw [List.length_take]; omega)
      have HTK : Hid (ShP (· ≠ D) w11 TA tc (shL (M.take q))) := by rw [← shL_take]; exact HT11.out.take q
      generalize hKK : M.take q = K at *
      clear HM hKK HT11
      go_wp2_with fail
      refine (explain_made HPN.out (hE11.bases HB.out) HTK.out HO11.out.nats HK'.out rfl HGD.out HOP.out (by have := HK'.out; omega) HVK.out (by omega)).mono ?_
      rintro e w12 ⟨XA, xc, rfl, hX, hb12⟩
      have hE12 := hE11.mv hb12
      have HP12 := Lib.hid (HP11.out.below hb12)
      have HT12 := Lib.hid (HTK.out.below hb12)
      have HO12 := Lib.hid (HO11.out.below hb12)
      have HX12 := Lib.hid hX
      have hful := xpM_full HPN.out HGD.out HOP.out (by have := HK'.out; omega) (by
        rcases Nat.eq_zero_or_pos K.length with e | e
        · exact .inl e
        · exact .inr (HVK.out 0 e))
      have HFU := Lib.hid hful.1
      have HKN := Lib.hid hful.2
      have HXL := Lib.hid (xpM_len p n h K oth)
      have y0 := HP12.out.c0; have y1 := HP12.out.c1; have y2 := HP12.out.c2
      generalize xpM p n h K oth = X at *
      clear hX hb12 hE11 HP11 HTK HO11 v0 v1 v2 hful
      go_wp2_with fail
      refine ret_below (fits_made HFU.out.made HPN.out XA xc h _ (hE12.bases HB.out) (by exact HX12.out) (by omega) (by rw [HXL.out]; omega) HXL.out.symm) ?_
      intro w13 hb13
      have hE13 := hE12.mv hb13
      have HP13 := Lib.hid (HP12.out.below hb13)
      have HT13 := Lib.hid (HT12.out.below hb13)
      have HO13 := Lib.hid (HO12.out.below hb13)
      have HX13 := Lib.hid (HX12.out.below hb13)
      have z0 := HP13.out.c0; have z1 := HP13.out.c1; have z2 := HP13.out.c2
      clear hb13 hE12 HP12 HT12 HO12 HX12 y0 y1 y2
      have hxcap := HX13.out.cap
      rw [HXL.out] at hxcap
      go_wp2_with fail
      go_loopw [97] (fun i wr => ∃ j : Nat, j ≤ q ∧ i = .int .i64 j ∧ Below w13.heap.size w13 wr) (fun i _ => q - (intOf i).toNat)
      case atStart => exact ⟨0, Nat.zero_le _, rfl, Below.refl _ _⟩
      case round =>
        obtain ⟨j, hj, rfl, hbr⟩ := hrel
        by_cases hlt : j < q
        · have hjK : j < K.length := by rw [← HK'.out]; exact hlt
          obtain ⟨b, off, B, c', rfl, hbl, -, q0, q1, -, hBI⟩ := (HT13.out.below hbr).nat hjK
          obtain ⟨r1, r2, -⟩ := HGD.out.rng j hjK
          obtain ⟨k1, k2⟩ := HKN.out j hjK
          have HVL := Lib.hid (HVK.out j hjK)
          generalize hN K j = hh at *
          generalize vN K j = vv at *
          have hidx : hh - 1 < X.length := by rw [HXL.out]; omega
          obtain ⟨gb, go, hXA⟩ : ∃ gb go, XA = some ⟨gb, go, none⟩ := by
            obtain ⟨gb, go, _, _, e, _⟩ := (HX13.out.below hbr).nat hidx
            exact ⟨gb, go, e⟩
          subst hXA
          have hone := (HX13.out.below hbr).one hidx
          rw [k1, k2] at hone
          have HONE := Lib.hid hone
          have HBI := Lib.hid hBI
          have c1 : IntKind.i64.wrap ((hh : Int) - 1) = ((hh - 1 : Nat) : Int) := by rw [IntWalk.i64_in _ (by omega)]; omega
          have c2 : ((hh - 1 : Nat) : Int) ≤ (hh : Int) := by omega
          have c3 : (hh : Int) ≤ (xc : Int) := by omega
          have c4 : (0 : Int) ≤ ((hh - 1 : Nat) : Int) := by omega
          have c5 : hh - (hh - 1) = 1 := by omega
          have c6 : ¬ xc = hh - 1 := by omega
          have hsz := hbr.size
          clear hone hBI k1 k2
          generalize hlo : hh - 1 = lo at *
          have hzl := (HX13.out.below hbr).ok.cap
          go_wp2_with fail
          refine gen_world fun wc hwc => ?_
          have hbc : Below wr.heap.size wr wc := by rw [hwc]; exact below_alloc _ _
          have HSC : Hid (ShCell wc wr.heap.size hh (.slice B vv.length c')) := Lib.hid (by rw [hwc]; exact ShCell.new _ _ rfl)
          have s0 := HSC.out.c0
          have s1 := HSC.out.c1
          have hsx := HSC.out.lt
          have HBC := Lib.hid hbc
          have HONEC := Lib.hid (HONE.out.below hbc)
          have HBIC := Lib.hid (HBI.out.keep (Kept.below hbc))
          clear hwc hbc q0 q1 z0 z1 z2 HONE HBI
          generalize wr.heap.size = sx at *
          go_region_held3 (fun w' => w'.cell? ⟨sx, 0, none⟩ = some (.int .i64 (hh : Int)) ∧ w'.cell? ⟨sx, 1, none⟩ = some (.slice B vv.length c')) (first | go_keep)
            ((go_at_call 22; refine ret_below (same_sh (some ⟨gb, go + lo * 2, none⟩) (some ⟨wc.heap.size, 0, none⟩) (shL [(hh, vv)]) (xc - lo) 1 1 1 _ (HONEC.out.below (by (repeat (first | exact bl_refl _ | apply bl_drew | apply bl_alloc)))) (lit_sh1 (P := fun _ => True) (x := (hh : Int)) (B := B) (c := c') (L := ofN vv) (by rw [len_ofN]; first | exact heap_alloc_new _ _ | exact heap_alloc_new wc.drew _) trivial ((HBIC.out.keep (Kept.below (by (repeat (first | exact bl_refl _ | apply bl_drew | apply bl_alloc))))).mono (fun _ _ _ => trivial))) (short_shL1 (by rw [HVL.out]; omega)) (by simp [shL]) (by simp [shL]) (by simp [shL])) ?_; intro ws hbs; have hbs' : Below wc.heap.size wc ws := below_trans (by (repeat (first | exact bl_refl _ | apply bl_drew | apply bl_alloc))) hbs; have k0 := (hbs'.cell (p := ⟨sx, 0, none⟩) hsx).trans s0; have k1 := (hbs'.cell (p := ⟨sx, 1, none⟩) hsx).trans s1))
          have HBS := Lib.hid (HBC.out.trans (hbs'.mono (Nat.le_of_lt hsx)))
          clear hbs hbs' s0 s1 k0 k1
          go_wp2_with fail
          go_roundw
          case rel => exact ⟨j + 1, by omega, by go_num, hbr.trans (HBS.out.mono hsz)⟩
          case measure => simp [intOf]; omega
        · obtain rfl : j = q := by omega
          have hEr := hE13.mv hbr
          have HPr := Lib.hid (HP13.out.below hbr)
          have y0 := HPr.out.c0
          have y1 := HPr.out.c1
          have y2 := HPr.out.c2
          clear z0 z1 z2
          go_wp2_with fail
          refine (combine_made HFU.out.made HPN.out XA xc h _ (hEr.bases HB.out) (by exact HX13.out.below hbr) (by omega) (by rw [HXL.out]; omega) HXL.out.symm (by rw [HXL.out]; exact hnh)).mono ?_
          intro e wq he
          obtain ⟨YA, yc, rfl, hY, hbq⟩ := he.held hEr.lt
          have hEq := hEr.mv hbq
          have HY := Lib.hid hY
          have HOq := Lib.hid ((HO13.out.below hbr).below hbq)
          clear he hY hbq hEr HPr y0 y1 y2
          go_wp2_with fail
          refine (same_at YA OA oth _ _ yc oc _ HY.out.nats HOq.out.nats (by omega) rfl rfl).mono ?_
          rintro e w' ⟨rfl, rfl⟩
          go_wp2_with fail
          refine ret_below (awake_any _ (hEq.bases HB.out)) ?_
          intro wz hbz
          go_wp2_with fail
          go_ret
          exact RetB.bool rfl (hEq.mv hbz).below
    · have hkm : ml ≤ M.length ∧ ml < n := by omega
      have hkn := hkm.2
      have HK := Lib.hid (show (M.take ml).length = ml by rw [List.length_take]; omega)
      have ek1 : (ml : Int) ≤ (tc : Int) := by have := HTC.out; omega
      go_wp2_with fail
      refine (elements_any D _ p sec.length _ (by exact hE10.dice) h1 hp2 (by omega)).mono ?_
      intro e w11 he
      obtain ⟨OA, oc, oth, R11, rfl, hol, hop, hO, hD11, hg11⟩ := elems_held hE10.lt he
      have hE11 := hE10.next hD11 hg11
      have HP11 := Lib.hid (HP10.out.mv hg11 hxD)
      have HT11 := Lib.hid (HT10.out.mv hg11)
      have HO11 := Lib.hid hO
      have HOL := Lib.hid hol
      have HOP := Lib.hid hop
      have v0 := HP11.out.c0; have v1 := HP11.out.c1; have v2 := HP11.out.c2
      have ho1 : oth.length ≤ 4 := by omega
      clear he hol hop hO hD11 hg11 hE10 HP10 HT10 u0 u1 u2
      have HGD := Lib.hid ((HM.out.take ml).good h1 (by omega))
      have HVK := Lib.hid (show ∀ i, i < (M.take ml).length → (vN (M.take ml) i).length = oth.length from fun i hi => by rw [(HM.out.take ml).vlen hi]; exact HOL.out.symm)
      have HK' : Hid (ml = (M.take ml).length) := Lib.hid (show ml = (M.take ml).length by rw [List.length_take]; omega)
      have HTK : Hid (ShP (· ≠ D) w11 TA tc (shL (M.take ml))) := by rw [← shL_take]; exact HT11.out.take ml
      generalize hKK : M.take ml = K at *
      clear HM hKK HT11
      go_wp2_with fail
      refine (explain_made HPN.out (hE11.bases HB.out) HTK.out HO11.out.nats HK'.out rfl HGD.out HOP.out (by have := HK'.out; omega) HVK.out (by omega)).mono ?_
      rintro e w12 ⟨XA, xc, rfl, hX, hb12⟩
      have hE12 := hE11.mv hb12
      have HP12 := Lib.hid (HP11.out.below hb12)
      have HT12 := Lib.hid (HTK.out.below hb12)
      have HO12 := Lib.hid (HO11.out.below hb12)
      have HX12 := Lib.hid hX
      have hful := xpM_full HPN.out HGD.out HOP.out (by have := HK'.out; omega) (by
        rcases Nat.eq_zero_or_pos K.length with e | e
        · exact .inl e
        · exact .inr (HVK.out 0 e))
      have HFU := Lib.hid hful.1
      have HKN := Lib.hid hful.2
      have HXL := Lib.hid (xpM_len p n h K oth)
      have y0 := HP12.out.c0; have y1 := HP12.out.c1; have y2 := HP12.out.c2
      generalize xpM p n h K oth = X at *
      clear hX hb12 hE11 HP11 HTK HO11 v0 v1 v2 hful
      go_wp2_with fail
      refine ret_below (fits_made HFU.out.made HPN.out XA xc h _ (hE12.bases HB.out) (by exact HX12.out) (by omega) (by rw [HXL.out]; omega) HXL.out.symm) ?_
      intro w13 hb13
      have hE13 := hE12.mv hb13
      have HP13 := Lib.hid (HP12.out.below hb13)
      have HT13 := Lib.hid (HT12.out.below hb13)
      have HO13 := Lib.hid (HO12.out.below hb13)
      have HX13 := Lib.hid (HX12.out.below hb13)
      have z0 := HP13.out.c0; have z1 := HP13.out.c1; have z2 := HP13.out.c2
      clear hb13 hE12 HP12 HT12 HO12 HX12 y0 y1 y2
      have hxcap := HX13.out.cap
      rw [HXL.out] at hxcap
      go_wp2_with fail
      go_loopw [97] (fun i wr => ∃ j : Nat, j ≤ ml ∧ i = .int .i64 j ∧ Below w13.heap.size w13 wr) (fun i _ => ml - (intOf i).toNat)
      case atStart => exact ⟨0, Nat.zero_le _, rfl, Below.refl _ _⟩
      case round =>
        obtain ⟨j, hj, rfl, hbr⟩ := hrel
        by_cases hlt : j < ml
        · have hjK : j < K.length := by rw [← HK'.out]; exact hlt
          obtain ⟨b, off, B, c', rfl, hbl, -, q0, q1, -, hBI⟩ := (HT13.out.below hbr).nat hjK
          obtain ⟨r1, r2, -⟩ := HGD.out.rng j hjK
          obtain ⟨k1, k2⟩ := HKN.out j hjK
          have HVL := Lib.hid (HVK.out j hjK)
          generalize hN K j = hh at *
          generalize vN K j = vv at *
          have hidx : hh - 1 < X.length := by rw [HXL.out]; omega
          obtain ⟨gb, go, hXA⟩ : ∃ gb go, XA = some ⟨gb, go, none⟩ := by
            obtain ⟨gb, go, _, _, e, _⟩ := (HX13.out.below hbr).nat hidx
            exact ⟨gb, go, e⟩
          subst hXA
          have hone := (HX13.out.below hbr).one hidx
          rw [k1, k2] at hone
          have HONE := Lib.hid hone
          have HBI := Lib.hid hBI
          have c1 : IntKind.i64.wrap ((hh : Int) - 1) = ((hh - 1 : Nat) : Int) := by rw [IntWalk.i64_in _ (by omega)]; omega
          have c2 : ((hh - 1 : Nat) : Int) ≤ (hh : Int) := by omega
          have c3 : (hh : Int) ≤ (xc : Int) := by omega
          have c4 : (0 : Int) ≤ ((hh - 1 : Nat) : Int) := by omega
          have c5 : hh - (hh - 1) = 1 := by omega
          have c6 : ¬ xc = hh - 1 := by omega
          have hsz := hbr.size
          clear hone hBI k1 k2
          generalize hlo : hh - 1 = lo at *
          have hzl := (HX13.out.below hbr).ok.cap
          go_wp2_with fail
          refine gen_world fun wc hwc => ?_
          have hbc : Below wr.heap.size wr wc := by rw [hwc]; exact below_alloc _ _
          have HSC : Hid (ShCell wc wr.heap.size hh (.slice B vv.length c')) := Lib.hid (by rw [hwc]; exact ShCell.new _ _ rfl)
          have s0 := HSC.out.c0
          have s1 := HSC.out.c1
          have hsx := HSC.out.lt
          have HBC := Lib.hid hbc
          have HONEC := Lib.hid (HONE.out.below hbc)
          have HBIC := Lib.hid (HBI.out.keep (Kept.below hbc))
          clear hwc hbc q0 q1 z0 z1 z2 HONE HBI
          generalize wr.heap.size = sx at *
          go_region_held3 (fun w' => w'.cell? ⟨sx, 0, none⟩ = some (.int .i64 (hh : Int)) ∧ w'.cell? ⟨sx, 1, none⟩ = some (.slice B vv.length c')) (first | go_keep)
            ((go_at_call 22; refine ret_below (same_sh (some ⟨gb, go + lo * 2, none⟩) (some ⟨wc.heap.size, 0, none⟩) (shL [(hh, vv)]) (xc - lo) 1 1 1 _ (HONEC.out.below (by (repeat (first | exact bl_refl _ | apply bl_drew | apply bl_alloc)))) (lit_sh1 (P := fun _ => True) (x := (hh : Int)) (B := B) (c := c') (L := ofN vv) (by rw [len_ofN]; first | exact heap_alloc_new _ _ | exact heap_alloc_new wc.drew _) trivial ((HBIC.out.keep (Kept.below (by (repeat (first | exact bl_refl _ | apply bl_drew | apply bl_alloc))))).mono (fun _ _ _ => trivial))) (short_shL1 (by rw [HVL.out]; omega)) (by simp [shL]) (by simp [shL]) (by simp [shL])) ?_; intro ws hbs; have hbs' : Below wc.heap.size wc ws := below_trans (by (repeat (first | exact bl_refl _ | apply bl_drew | apply bl_alloc))) hbs; have k0 := (hbs'.cell (p := ⟨sx, 0, none⟩) hsx).trans s0; have k1 := (hbs'.cell (p := ⟨sx, 1, none⟩) hsx).trans s1))
          have HBS := Lib.hid (HBC.out.trans (hbs'.mono (Nat.le_of_lt hsx)))
          clear hbs hbs' s0 s1 k0 k1
          go_wp2_with fail
          go_roundw
          case rel => exact ⟨j + 1, by omega, by go_num, hbr.trans (HBS.out.mono hsz)⟩
          case measure => simp [intOf]; omega
        · obtain rfl : j = ml := by omega
          have hEr := hE13.mv hbr
          have HPr := Lib.hid (HP13.out.below hbr)
          have y0 := HPr.out.c0
          have y1 := HPr.out.c1
          have y2 := HPr.out.c2
          clear z0 z1 z2
          go_wp2_with fail
          refine (combine_made HFU.out.made HPN.out XA xc h _ (hEr.bases HB.out) (by exact HX13.out.below hbr) (by omega) (by rw [HXL.out]; omega) HXL.out.symm (by rw [HXL.out]; exact hnh)).mono ?_
          intro e wq he
          obtain ⟨YA, yc, rfl, hY, hbq⟩ := he.held hEr.lt
          have hEq := hEr.mv hbq
          have HY := Lib.hid hY
          have HOq := Lib.hid ((HO13.out.below hbr).below hbq)
          clear he hY hbq hEr HPr y0 y1 y2
          go_wp2_with fail
          refine (same_at YA OA oth _ _ yc oc _ HY.out.nats HOq.out.nats (by omega) rfl rfl).mono ?_
          rintro e w' ⟨rfl, rfl⟩
          go_wp2_with fail
          refine ret_below (awake_any _ (hEq.bases HB.out)) ?_
          intro wz hbz
          go_wp2_with fail
          go_ret
          exact RetB.bool rfl (hEq.mv hbz).below
  · have hL := light_any A0 L0.length c0 w
    rw [decide_eq_false hlight] at hL
    have HLt := Lib.hid hL
    clear hL
    go_enter Tryd.func9, Tryd.ntmps9
    go_wp2_with fail
    refine ret_pure HLt.out ?_
    go_wp2_with fail
    refine ret_below (awake_any _ HB.out) ?_
    intro w1 hb1
    go_wp2_with fail
    go_ret
    exact RetB.bool rfl hb1
end Go.Proofs.YtkjpnhhkebbmdaaDoor
namespace Go.Proofs.YtkjpnhhkebbmdaaDoor
open Go.RowKit

theorem cell_block_lt {w : World} {a : Addr} {v : Value} (h : w.cell? a = some v) : a.block < w.heap.size := by
  rcases Nat.lt_or_ge a.block w.heap.size with hlt | hge
  · exact hlt
  · unfold World.cell? at h; simp [Array.getElem?_eq_none hge] at h
theorem open_row {W : World} {x : Addr} {len cap : Nat} {zs : List Int} (hl : len ≤ cap) (hm : cap ≤ maxLen) (hz : zs.length = cap) (hcell : ∀ i, i < zs.length → W.cell? (x.add i) = some (.int .i64 (zs.getD i 0)))
    (hb : ∀ n ∈ zs, -9223372036854775808 ≤ n ∧ n ≤ 9223372036854775807) :
    ∃ ys : List Int, ys.length = len ∧ ys.length ≤ maxLen ∧ IntsAt W (some x) ys ∧ ∀ n ∈ ys, -9223372036854775808 ≤ n ∧ n ≤ 9223372036854775807 := by
  refine ⟨zs.take len, by simp; omega, by simp; omega, fun k hk => ?_, fun n hn => hb n (List.mem_of_mem_take hn)⟩
  have hk' : k < len := by simpa using Nat.lt_of_lt_of_le hk (List.length_take_le _ _)
  have h0 := hcell 0 (by omega)
  have hk0 := hcell k (by omega)
  obtain ⟨b, off, spot⟩ := x
  have hs : spot = none := by simpa [Addr.add] using World.cell?_spot h0
  subst hs
  have hlt := cell_block_lt hk0
  refine ⟨b, off, rfl, ?_, ?_⟩
  · unfold Addr.add at hlt; split at hlt <;> exact hlt
  · have e : (⟨b, off, none⟩ : Addr).add k = ⟨b, off + k, none⟩ := by
      unfold Addr.add; split
      · rename_i h; subst h; rfl
      · rfl
    rw [← e, hk0, nth_eq hk]
    simp [List.getD_eq_getElem?_getD, show k < zs.length by omega]
end Go.Proofs.YtkjpnhhkebbmdaaDoor
