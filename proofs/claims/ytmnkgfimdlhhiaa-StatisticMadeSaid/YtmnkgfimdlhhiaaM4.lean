/-
  Published numbers: publishing a table, the document's way.
  Budgets: slices.IndexFunc and slices.DeleteFunc over spends.
  Budgets: slices.DeleteFunc over spends.
  Budgets: Clean, the program's.
  Budgets: Clean, the document's.
  Budgets: comparing them; all functions agree.
  Budgets made by dice: Of, Budget.
  Budgets made by dice: the walk of play.Budget.
  Conditions: those that each theorem names.
-/
import Derived.Test.YtmnkgfimdlhhiaaM3
import Derived.Deep.AppendLies
import Derived.Deep.RegionLaw
import Derived.Lib.SliceRun
set_option linter.unusedVariables false
set_option linter.unusedSimpArgs false
namespace Go.Proofs.Ytmnkgfimdlhhiaa
open Go.RowKit

/-- append of one element in a region that draws its order. -/
theorem step_app_el {α : Type} (E : El α) {t ty : TypeId} {z : Value} {bytes : Nat} (ht : Try.prog.underlying t = some (.slice ty)) (hinfo : (Try.prog.info? ty).map (fun i => (i.zero, i.size, i.bytes)) = some (some z, E.n, bytes)) (hzs : z.cells.size = E.n)
    {ops : Array Oper} {o : Oper} {a : Act} {K : Act → World → Prop} {Q : Exit → Act → World → Prop} {X : Prop} (W : World) (hgd : o.guard = none) (s x : Operand)
    (ho : o.op = .call { callee := .builtin .append, args := #[s, x], argTypes := #[t, t] })
    (w5 : World) (base : Nat) (v : Value) (n : Nat) (D : List α) (y : α) {C : Array Value} (hC : C = (E.f y).toArray) (hs : a.eval s = v) (hx : a.eval x = .slice (some ⟨w5.heap.size, 0, none⟩) 1 1)
    (hW : W.heap = (w5.alloc (.cells C ty)).heap ∧ W.os = w5.os ∧ W.tape = w5.tape ∧ W.output = w5.output) (hn : n = D.length) (hl : n ≤ 100000) (hb : bytes ≤ 1000) (hown : ElOwn E ty w5 base v D) (hbase : base ≤ w5.heap.size)
    (h : ∀ g cap w', ElOwn E ty w' base (.slice (some ⟨g, 0, none⟩) (n + 1) cap) (D ++ [y]) → Below base w5 w' → K (a.put o.dst (.slice (some ⟨g, 0, none⟩) (n + 1) cap)) w') :
    if Region.wanted o (yielded ops a.tmps) = true then Oper.wp Try.prog o a W K Q else X := by
  subst hC
  obtain ⟨i0, hi, hz0, hz1, hz2⟩ := info_parts hinfo
  have hownW : ElOwn E ty W base v D := by
    obtain ⟨h1, h2⟩ := hown.alloc (.cells (E.f y).toArray ty)
    refine ⟨h1, ?_⟩
    rw [hW.1]; exact h2
  have hsz : W.heap.size = w5.heap.size + 1 := by rw [hW.1]; simp
  have hcell : ∀ x, W.cell? x = (w5.alloc (.cells (E.f y).toArray ty)).cell? x := fun x => by unfold World.cell?; rw [hW.1]
  have hlit := (ElAt.lit E w5 y ty).news
  have hE1 : E.flat [y] = E.f y := by simp [El.flat]
  rw [hE1] at hlit
  have hbb : (n + 1) * bytes ≤ 100001 * 1000 := Nat.mul_le_mul (by omega) hb
  refine step_append_lies _ hgd s x t ho base ty i0 z E.n bytes ht hi hz0 hz1 hz2 hzs E.pos v n (E.flat D) hs (by rw [hn]; exact hownW) ⟨w5.heap.size, 0, none⟩ 1 1 (E.f y) hx (by rw [E.len]; simp) (fun j u hu => (hcell _).trans (hlit j u hu)) (fun u hu => E.one y u hu) (by omega) (by unfold maxLen; omega) (by omega) (by omega) _ rfl ?_
  intro g cap w' ho' hg _ _
  have hbW : Below base w5 W := ⟨hW.2.1, hW.2.2.1, hW.2.2.2, by omega, fun k hk => by rw [hW.1]; exact Below.heap_alloc w5 _ k (by omega)⟩
  refine h g cap w' ?_ (hbW.grown hg (by omega) (fun k e => (World.ownsRow.lt hown k e).1))
  unfold ElOwn; rw [List.length_append, E.flat_append, hE1, List.length_singleton, ← hn]; exact ho'

theorem total_tot (T A B : Int) (w : World) (h : Good T A B) : Calls Try.prog 30 #[nz T A B] w (RetB (.int .i64 (totalW T A B)) w) :=
  rtotal_ok T A B w h.1 h.2.1 h.2.2.1 h.2.2.2.1 h.2.2.2.2

set_option maxRecDepth 100000 in
set_option maxHeartbeats 4000000 in
theorem refPublish_any (T A B P Am : Int) (Q : Option Addr) (S : List Spd) (cq : Nat) (tm : Int) (C : Option Addr) (L : List Spd) (c : Nat) (X : Option Addr) (ds : List Int) (cx : Nat) (Y : Option Addr) (us : List Int) (cy : Nat) (w : World)
    (hS : SpAt w Q S) (hQ : ∀ a, Q = some a → a.spot = none ∨ S.length = 0) (hN : Q = none → S.length = 0 ∧ cq = 0) (hl : S.length ≤ 100000) (hL : ElAt elC w C L) (ll : L.length ≤ 100000) (hX : IntsAt w X ds) (lx : ds.length ≤ 1000000) (hY : IntsAt w Y us) (ly : us.length ≤ 1000000) :
    Calls Try.prog 31 #[nz T A B, .agg #[.int .i64 P, .int .i64 Am, .slice Q S.length cq], .int .i64 tm, .slice C L.length c, .slice X ds.length cx, .slice Y us.length cy] w (PubQ T A B P Am S tm L ds us w) := by
  have HS := Lib.hid hS
  have HL := Lib.hid hL
  have HX := Lib.hid hX
  have HY := Lib.hid hY
  clear hS hL hX hY
  go_enter Try.func31, Try.ntmps31
  go_wp2_with fail
  refine (copy_any P Am Q S cq _ ((((HS.out.alloc _).alloc _).alloc _).alloc _) hQ hN hl).mono ?_
  rintro e w1 ⟨v, rfl, hown, hb⟩
  obtain ⟨C1, c1, rfl, -, -, -⟩ := hown.at_
  obtain ⟨⟨hn, hx, ht2, hr⟩, -, hSt⟩ := Pst.start hb hown
  have f2 := hx.frozen 2
  have f0 := hx.frozen 0
  have f1 := hx.frozen 1
  have n0 := hn.c0
  have n1 := hn.c1
  have n2 := hn.c2
  have x0 := hx.c0
  have x1 := hx.c1
  have x2 := hx.c2
  have lw1 := hb.size
  have HLw := Lib.hid (HL.out.below ((pub0_below w T A B P Am (.slice Q S.length cq)).trans (hb.mono (by simp; omega))))
  clear hn hx ht2 hr hb hown HS hQ hN
  go_wp2_with fail
  obtain ⟨w2, hw2⟩ : ∃ w2, w2 = ((w1.setCell ⟨w.heap.size + 1, 0, none⟩ (.int .i64 P)).setCell ⟨w.heap.size + 1, 1, none⟩ (.int .i64 Am)).setCell ⟨w.heap.size + 1, 2, none⟩ (.slice C1 S.length c1) := ⟨_, rfl⟩
  rw [← hw2] at hSt ⊢
  have lw2 : w2.heap.size = w1.heap.size := by rw [hw2]; simp [World.setCell]
  simp at lw1
  have hbw2 : Below w.heap.size w w2 := hSt.below
  clear hw2 x0 x1 x2 f0 f1 f2 HLw n0 n1 n2
  have HL2 := Lib.hid (HL.out.below hbw2)
  have HX2 := Lib.hid (HX.out.below hbw2)
  have HY2 := Lib.hid (HY.out.below hbw2)
  clear HL HX HY hbw2
  have n0 := hSt.nz.c0
  have n1 := hSt.nz.c1
  have n2 := hSt.nz.c2
  have HST := Lib.hid hSt
  clear hSt
  by_cases hG : Good T A B
  case neg =>
    have HE := Lib.hid (pbE_noise (P := P) (Am := Am) (S := S) (tm := tm) (ds := ds) (us := us) hG)
    have HCK := Lib.hid (checkN_bad hG)
    clear hG
    refine (rcheck_any T A B _).mono ?_
    rintro e w3 ⟨rfl, hb3⟩
    rw [HCK.out]
    have hSt := HST.out.later hb3
    have x0 := hSt.box.c0
    have x1 := hSt.box.c1
    have x2 := hSt.box.c2
    obtain ⟨⟨y0, y1⟩, ⟨f0, f1⟩, ⟨z0, z1, z2⟩, ⟨g0, g1, g2⟩⟩ := hSt.tabZ
    have hs := hSt.size
    have HST := Lib.hid hSt
    clear hSt hb3 n0 n1 n2
    go_wp2_with fail
    go_region
    go_wp2_with fail
    exact HST.out.ret rfl rfl rfl rfl rfl (fun e W hW => PubQ.err HE.out (by decide) hW)
  case pos =>
  have HG := Lib.hid hG
  have HCK := Lib.hid (checkN_ok hG)
  have HTOT := Lib.hid (WOK.of hG (c := 0) (by have := hG.1; omega)).tot
  refine (rcheck_any T A B _).mono ?_
  rintro e w3 ⟨rfl, hb3⟩
  rw [HCK.out]
  have hSt := HST.out.later hb3
  have HL3 := Lib.hid (HL2.out.below hb3)
  have HX3 := Lib.hid (HX2.out.below hb3)
  have HY3 := Lib.hid (HY2.out.below hb3)
  have x0 := hSt.box.c0
  have x1 := hSt.box.c1
  have x2 := hSt.box.c2
  obtain ⟨⟨y0, y1⟩, ⟨f0, f1⟩, ⟨z0, z1, z2⟩, ⟨g0, g1, g2⟩⟩ := hSt.tabZ
  have hs := hSt.size
  have HST := Lib.hid hSt
  clear hSt hb3 n0 n1 n2
  clear HL2 HX2 HY2 HCK hG lw1 lw2
  clear x0 x1 x2 y0 y1 f0 f1 z0 z1 z2 g0 g1 g2 hs
  go_wp2_with fail
  refine ret_below (refRows_any X ds cx _ HX3.out (by omega)) fun w3b hb3b => ?_
  have hSt := HST.out.later hb3b
  have HL3b := Lib.hid (HL3.out.below hb3b)
  have HX3b := Lib.hid (HX3.out.below hb3b)
  have HY3b := Lib.hid (HY3.out.below hb3b)
  have x0 := hSt.box.c0
  have x1 := hSt.box.c1
  have x2 := hSt.box.c2
  obtain ⟨⟨y0, y1⟩, ⟨f0, f1⟩, ⟨z0, z1, z2⟩, ⟨g0, g1, g2⟩⟩ := hSt.tabZ
  have hs := hSt.size
  have HST := Lib.hid hSt
  clear hSt
  clear hb3b HL3 HX3 HY3
  cases hrw : rowsB ds with
  | false =>
    have HE := Lib.hid (pbE_range (P := P) (Am := Am) (S := S) (tm := tm) (ds := ds) (us := us) HG.out (fun h => by have := decide_eq_true h.1; change rowsB ds = true at this; rw [hrw] at this; cases this))
    clear hrw
    go_wp2_with fail
    go_region
    go_wp2_with fail
    exact HST.out.ret rfl rfl rfl rfl rfl (fun e W hW => PubQ.err HE.out (by decide) hW)
  | true =>
    have HRO := Lib.hid (show RowsOK ds from of_decide_eq_true hrw)
    clear hrw
    by_cases hlen : us.length = ds.length
    case neg =>
      have HE := Lib.hid (pbE_range (P := P) (Am := Am) (S := S) (tm := tm) (ds := ds) (us := us) HG.out (fun h => hlen h.2.1))
      have heq : ((us.length : Int) != (ds.length : Int)) = true := by simp; omega
      clear hlen
      go_wp2_with fail
      go_region
      go_wp2_with fail
      exact HST.out.ret rfl rfl rfl rfl rfl (fun e W hW => PubQ.err HE.out (by decide) hW)
    case pos =>
      have HLEN := Lib.hid hlen
      have hlen1 : us.length ≤ ds.length := by omega
      have hlen2 : ds.length ≤ us.length := by omega
      have heq : ((us.length : Int) != (ds.length : Int)) = false := by simp [hlen]
      clear hlen x0 x1 x2 y0 y1 f0 f1 z0 z1 z2 g0 g1 g2
      obtain ⟨tot1, tot2⟩ := HTOT.out
      go_wp2_with fail
      go_loopw [15] (fun i wr => ∃ k : Nat, k ≤ us.length ∧ i = .int .i64 k ∧ (∀ j, j < k → inI (nth us j) 0 (totalW T A B - 1) = true) ∧ Below w3b.heap.size w3b wr) (fun i _ => us.length - (intOf i).toNat)
      case atStart => exact ⟨0, Nat.zero_le _, rfl, fun j hj => absurd hj (by omega), Below.refl _ _⟩
      case round =>
        obtain ⟨k, hk, rfl, hpre, hbr⟩ := hrel
        have HP := Lib.hid hpre
        have hSt := HST.out.later hbr
        have hbrs := hbr.size
        clear hpre
        by_cases hlt : k < us.length
        · obtain ⟨b, off, rfl, hbl, hcell⟩ := (HY3b.out.below hbr) k hlt
          have n0 := hSt.nz.c0
          have n1 := hSt.nz.c1
          have n2 := hSt.nz.c2
          have lN := hSt.nz.lt
          have hk0 : (0 : Int) ≤ (k : Int) := by omega
          have hkl : (k : Int) < (us.length : Int) := by omega
          have HBAD := Lib.hid (fun (h : inI (nth us k) 0 (totalW T A B - 1) = false) => pbE_range (P := P) (Am := Am) (S := S) (tm := tm) (ds := ds) (us := us) HG.out (fun hh => by have := hh.2.2 k hlt; rw [h] at this; cases this))
          have HSTR := Lib.hid hSt
          clear hSt
          have HTC := Lib.hid (fun W => total_tot T A B W HG.out)
          generalize huu : nth us k = uu at *
          generalize htt : totalW T A B = tt at *
          have HUU := Lib.hid huu
          clear huu htt
          by_cases t0 : uu < 0
          · have HE := Lib.hid (HBAD.out (decide_eq_false (by omega)))
            go_wp2_with fail
            go_quiet (fail)
            go_wp2_with fail
            refine gen_world fun wq hwq => ?_
            have hSt := HSTR.out.later (show Below wr.heap.size wr wq by rw [hwq]; exact below_drewN (Below.refl _ _) _)
            clear hwq
            have x0 := hSt.box.c0
            have x1 := hSt.box.c1
            have x2 := hSt.box.c2
            obtain ⟨⟨y0, y1⟩, ⟨f0, f1⟩, ⟨z0, z1, z2⟩, ⟨g0, g1, g2⟩⟩ := hSt.tabZ
            have hs := hSt.size
            have HST := Lib.hid hSt
            clear hSt
            go_wp2_with fail
            go_region
            go_wp2_with fail
            exact HST.out.ret rfl rfl rfl rfl rfl (fun e W hW => PubQ.err HE.out (by decide) hW)
          · have d0 : decide (uu < 0) = false := decide_eq_false t0
            go_wp2_with fail
            refine wp_region_grew (by kernel_rfl) (by kernel_rfl) ?_
            repeat (go_big_quiet_step ((first
              | (go_at_call 30; exact grew_of (HTC.out _)))))
            refine wpQuiet_nil ?_
            intro w7 hb7
            by_cases t1 : tt ≤ uu
            · have HE := Lib.hid (HBAD.out (decide_eq_false (by omega)))
              have hSt := HSTR.out.later hb7
              have x0 := hSt.box.c0
              have x1 := hSt.box.c1
              have x2 := hSt.box.c2
              obtain ⟨⟨y0, y1⟩, ⟨f0, f1⟩, ⟨z0, z1, z2⟩, ⟨g0, g1, g2⟩⟩ := hSt.tabZ
              have hs := hSt.size
              have HST := Lib.hid hSt
              clear hSt
              go_wp2_with fail
              go_region
              go_wp2_with fail
              exact HST.out.ret rfl rfl rfl rfl rfl (fun e W hW => PubQ.err HE.out (by decide) hW)
            · have HOKU := Lib.hid (show inI uu 0 (tt - 1) = true from decide_eq_true (by omega))
              go_wp2_with fail
              go_roundw
              case rel =>
                refine ⟨k + 1, by omega, by go_num, fun j hj => ?_, hbr.trans (hb7.mono hbrs)⟩
                by_cases e : j = k
                · subst e; rw [HUU.out]; exact HOKU.out
                · exact HP.out j (by omega)
              case measure => simp [intOf]; omega
        · have hu : UsOK T A B us := fun j hj => HP.out j (by omega)
          have HPE := Lib.hid (pbE_spend (P := P) (Am := Am) (S := S) (tm := tm) (ds := ds) (us := us) HG.out ⟨HRO.out, HLEN.out, hu⟩)
          have HL4 := Lib.hid (HL3b.out.below hbr)
          have HX4 := Lib.hid (HX3b.out.below hbr)
          have HY4 := Lib.hid (HY3b.out.below hbr)
          have x0 := hSt.box.c0
          have x1 := hSt.box.c1
          have x2 := hSt.box.c2
          have HST := Lib.hid hSt
          clear hSt hu HL3b HX3b HY3b
          go_wp2_with fail
          clear x0 x1 x2
          obtain ⟨C9, c9, ec, hC, -, -⟩ := HST.out.own.at_
          injection ec with ec1 ec2 ec3
          subst ec1; subst ec3
          have HSP := Lib.hid (refSpend_all P Am C1 S c1 tm 1 _ hC HST.out.own.spotE HST.out.own.nilcapE hl)
          clear hC ec2
          refine HSP.out.mono ?_
          rintro e w5 ⟨v5, rfl, hown5, hb5⟩
          have hSt := HST.out.later hb5
          have HL5 := Lib.hid (HL4.out.below hb5)
          have HX5 := Lib.hid (HX4.out.below hb5)
          have HY5 := Lib.hid (HY4.out.below hb5)
          have h45 := HST.out.size
          replace hown5 := hown5.mono h45
          obtain ⟨C5, c5, rfl, -, -, -⟩ := hown5.at_
          have HO5 := Lib.hid hown5
          clear hown5 hb5 HSP HL4 HX4 HY4 HST
          by_cases he : spE P Am S tm 1 = 0
          case neg =>
            have HE := Lib.hid (fun e W hW => PubQ.err (L := L) (w := w) (e := e) (w' := W) HPE.out he hW)
            have hne : (spE P Am S tm 1 != 0) = true := by simp [he]
            generalize spE P Am S tm 1 = ee at *
            have HST := Lib.hid hSt
            clear hSt he
            go_wp2_with fail
            have hSt := HST.out.later (below_alloc w5 (.cells #[.int .i64 P, .int .i64 Am, .slice C5 (spS P Am S tm 1).length c5] 24))
            have x0 := hSt.box.c0
            have x1 := hSt.box.c1
            have x2 := hSt.box.c2
            obtain ⟨⟨y0, y1⟩, ⟨f0, f1⟩, ⟨z0, z1, z2⟩, ⟨g0, g1, g2⟩⟩ := hSt.tabZ
            have hs := hSt.size
            have HST := Lib.hid hSt
            clear hSt
            go_region
            go_wp2_with fail
            exact HST.out.ret rfl rfl rfl rfl rfl (fun e W hW => HE.out e W hW)
          case pos =>
            have hsl : spS P Am S tm 1 = S ++ [(tm, 1)] := by unfold spS; rw [if_pos he]
            rw [hsl] at HO5 ⊢
            have HE := Lib.hid (fun e W h => PubQ.ok (L := L) (w := w) (e := e) (w' := W) (HPE.out.trans he) h)
            rw [he]
            clear he hsl HPE
            rw [show (S ++ [(tm, (1 : Int))]).length = S.length + 1 by simp] at HO5 ⊢
            have hs := hSt.size
            have HST := Lib.hid hSt
            clear hSt
            go_wp2_with fail
            refine gen_world fun w6 hw6 => ?_
            have hb6 : Below w5.heap.size w5 w6 := by rw [hw6]; exact (below_alloc _ _).alloc (by simp) _
            have hB : BudCell w6 w5.heap.size P Am (.slice C5 (S.length + 1) c5) := by rw [hw6]; exact (BudCell.new _ _ _ rfl).alloc _
            have hT : TabCell w6 (w5.heap.size + 1) tm (.slice none 0 0) := by rw [hw6]; exact TabCell.new _ _ (by simp)
            have s6 : w6.heap.size = w5.heap.size + 2 := by rw [hw6]; simp
            have HB6 := Lib.hid hB
            have HT6 := Lib.hid hT
            clear hw6 hB hT
            go_wp2_with fail
            go_loopw [19] (fun i wr => ∃ (k : Nat) (u : Value), i = .int .i64 k ∧ k ≤ ds.length ∧ TabCell wr (w5.heap.size + 1) tm u ∧ ElOwn elL 74 wr (w5.heap.size + 2) u (lnK T A B L ds us k) ∧ Below (w5.heap.size + 1) w6 wr) (fun i _ => ds.length - (intOf i).toNat)
            case atStart => exact ⟨0, _, rfl, Nat.zero_le _, HT6.out, ElOwn.nil _ _ _ _, Below.refl _ _⟩
            case round =>
              obtain ⟨k, u, rfl, hk, hT, hown, hbr⟩ := hrel
              have hb5r : Below w5.heap.size w5 wr := hb6.trans (hbr.mono (by omega))
              have hrs := hbr.size
              have hSt := HST.out.later hb5r
              have n0 := hSt.nz.c0
              have n1 := hSt.nz.c1
              have n2 := hSt.nz.c2
              have lN := hSt.nz.lt
              have t0 := hT.c0
              have t1 := hT.c1
              have lT := hT.lt
              obtain ⟨U, uc, eu, -, -, -, -, -⟩ := hown.at_
              rw [lnK_len] at eu
              subst eu
              have HT := Lib.hid hT
              have HOW := Lib.hid hown
              have HSR := Lib.hid hSt
              clear hT hown hSt
              by_cases hlt : k < ds.length
              · obtain ⟨b, off, rfl, hbl, hcell⟩ := (HX5.out.below hb5r) k hlt
                obtain ⟨b', off', rfl, hbl', hcell'⟩ := (HY5.out.below hb5r) k (by omega)
                have HLS := Lib.hid (lnK_succ T A B L ds us k)
                have HLR := Lib.hid (HL5.out.below hb5r)
                have hk0 : (0 : Int) ≤ (k : Int) := by omega
                have hkl : (k : Int) < (ds.length : Int) := by omega
                have hku : (k : Int) < (us.length : Int) := by omega
                generalize nth ds k = dd at *
                generalize nth us k = uu at *
                go_wp2_with fail
                refine wp_region_grew (by kernel_rfl) (by kernel_rfl) ?_
                repeat (go_big_quiet_step ((first
                  | (go_at_call 34; exact grew_of (refCount_any C L c dd _ (HLR.out.below (grewW.below _ _)) ll))
                  | (go_at_call 68; exact grew_of (rclamp_cl T A B _ dd _ (Int.le_trans (by decide) HG.out.1)))
                  | (go_at_call 67; exact grew_of (rdraw_any T A B _ uu _)))))
                refine wpQuiet_nil ?_
                intro w7 hb7
                generalize drawV T A B (clC T L dd) uu = zz at *
                generalize drawE T A B (clC T L dd) uu = ee at *
                have hs7 := hb7.size
                have HT7 := Lib.hid (HT.out.below hb7)
                have HOW7 := Lib.hid (HOW.out.below hb7)
                have hcell7 := (hb7.cell (p := ⟨b, off + k, none⟩) hbl).trans hcell
                have hbl7 : b < w7.heap.size := Nat.lt_of_lt_of_le hbl hs7
                clear n0 n1 n2 t0 t1 hcell hcell' HT HOW HLR HSR
                have t0 := HT7.out.c0
                have t1 := HT7.out.c1
                have t2 := HT7.out.frozen 1
                have lT7 := HT7.out.lt
                have hd64 : ds.length ≤ 64 := HRO.out.1.2
                go_wp2_with fail
                go_region_law (refine step_app_el elL Try.underlying50 info_line rfl _ rfl (.tmp 100) (.tmp 107) rfl w7 (w5.heap.size + 2) (.slice U k uc) k (lnK T A B L ds us k) (dd, zz) rfl (by simp [Act.eval]) (by simp [Act.eval]) ⟨rfl, rfl, rfl, rfl⟩ (by rw [lnK_len]) (by omega) (by decide) HOW7.out (by omega) ?_; intro g8 c8 w8 hown8 hb8; rw [← HLS.out] at hown8; have hT8 := HT7.out.keptB hb8 (by omega); have q0 := hT8.c0; have q1 := hT8.c1; have q2 := hT8.frozen 1; have HT8 := Lib.hid hT8; have HOW8 := Lib.hid hown8; have lT8 := hT8.lt; clear hT8 hown8)
                all_goals
                  go_wp2_with fail
                  go_roundw
                  case rel => exact ⟨k + 1, _, by go_num, by omega, HT8.out.set1 _, HOW8.out.set_ _ _ (by simp), below_set ((hbr.trans (hb7.mono (by omega))).trans (hb8.mono (by omega))) _ _ (by simp)⟩
                  case measure => simp [intOf]; omega
              · have HK := Lib.hid (show k = ds.length by omega)
                have HB := Lib.hid (HB6.out.keptB hbr (by omega))
                have m0 := HB.out.c0
                have m1 := HB.out.c1
                have m2 := HB.out.c2
                obtain ⟨⟨y0, y1⟩, ⟨f0, f1⟩, ⟨z0, z1, z2⟩, ⟨g0, g1, g2⟩⟩ := HSR.out.tabZ
                have hs3 := HSR.out.size
                have HOWR := Lib.hid ((HO5.out.below hb5r))
                have HOWS := Lib.hid (HOW.out.mono (show w.heap.size + 4 ≤ w5.heap.size + 2 by omega))
                clear n0 n1 n2 HOW
                go_wp2_with fail
                go_region
                go_wp2_with fail
                refine pub_ret (w := w) (wr := wr) (u := .slice U k uc) (v := .slice C5 (S.length + 1) c5) (Ls := lnK T A B L ds us k) (S := S ++ [(tm, 1)]) (E := 0) rfl tm P Am HSR.out.tab HSR.out.res ?_ HOWR.out HSR.out.below ?_ ?_ ?_ ?_ ?_
                · exact HOWS.out
                · rfl
                · rfl
                · rfl
                · rfl
                · exact fun e W hW => HE.out e W (by rw [← HK.out]; exact hW)

end Go.Proofs.Ytmnkgfimdlhhiaa
namespace Go.Proofs.Ytmnkgfimdlhhiaa
open Go.RowKit

def IxP (T : Spd → Bool) (S : List Spd) (i : Int) : Prop := (i = -1 ∧ ∀ j, j < S.length → T (S.getD j (0, 0)) = false) ∨ ∃ k : Nat, i = k ∧ k < S.length ∧ T (S.getD k (0, 0)) = true ∧ ∀ j, j < k → T (S.getD j (0, 0)) = false
set_option maxRecDepth 100000 in
set_option maxHeartbeats 1000000 in
theorem indexFunc_any (n : Nat) (u1 u2 : Value) (T : Spd → Bool) (B : Option Addr) (S : List Spd) (cap : Nat) (w : World) (hS : SpAt w B S) (hl : S.length ≤ 100000) (hn : ∀ args w, (callFunc n args).run Try.prog w = .ok (.enter n args) w)
    (hT : ∀ w', Below w.heap.size w w' → ∀ k, k < S.length → Calls Try.prog n #[.agg #[.int .i64 (tS S k), .int .i64 (cS S k)], u1, u2] w' (RetB (.bool (T (S.getD k (0, 0)))) w')) :
    Calls Try.prog 72 #[.slice B S.length cap, .func (.func n) #[] #[u1, u2]] w (fun e w' => ∃ i : Int, e = .returned (.int .i64 i) ∧ IxP T S i ∧ Below w.heap.size w w') := by
  have HS := Lib.hid hS
  have HT := Lib.hid hT
  clear hS hT
  go_enter Try.func72, Try.ntmps72
  go_wp2_with fail
  go_loopw [8] (fun i wr => ∃ k : Nat, k ≤ S.length ∧ i = .int .i64 k ∧ (∀ j, j < k → T (S.getD j (0, 0)) = false) ∧ Below w.heap.size w wr) (fun i _ => S.length - (intOf i).toNat)
  case atStart => exact ⟨0, Nat.zero_le _, rfl, fun j hj => absurd hj (by omega), Below.refl _ _⟩
  case round =>
    obtain ⟨k, hk, rfl, hpre, hbr⟩ := hrel
    have HP := Lib.hid hpre
    clear hpre
    by_cases hlt : k < S.length
    · obtain ⟨b, off, rfl, hbl, c1, c2⟩ := HS.out k hlt
      have d1 := (hbr.cell hbl).trans c1
      have d2 := (hbr.cell hbl).trans c2
      have hbs := hbr.size
      clear c1 c2
      go_wp2_with fail
      refine ret_below (HT.out _ hbr k hlt) fun w2 hb2 => ?_
      generalize hx : T (S.getD k (0, 0)) = tv at *
      have HX := Lib.hid hx
      clear hx
      have hbw : Below w.heap.size w w2 := hbr.trans (hb2.mono hbs)
      cases tv with
      | true =>
        go_wp2_with fail
        go_ret
        exact ⟨_, rfl, .inr ⟨k, rfl, hlt, HX.out, HP.out⟩, hbw⟩
      | false =>
        go_wp2_with fail
        go_roundw
        case rel =>
          refine ⟨k + 1, by omega, by go_num, fun j hj => ?_, hbw⟩
          by_cases hjk : j = k
          · subst hjk; exact HX.out
          · exact HP.out j (by omega)
        case measure => simp [intOf]; omega
    · go_wp2_with fail
      go_ret
      exact ⟨_, rfl, .inl ⟨rfl, fun j hj => HP.out j (by omega)⟩, hbr⟩

/-! ### What DeleteFunc keeps -/
theorem flat_set : ∀ (L : List Spd) (i : Nat) (t x : Int), i < L.length → ((flat L).set (i * 2) (.int .i64 t)).set (i * 2 + 1) (.int .i64 x) = flat (L.set i (t, x))
  | [], i, _, _, h => absurd h (by simp)
  | y :: L, 0, t, x, _ => rfl
  | y :: L, i + 1, t, x, h => by
    rw [show (i + 1) * 2 = i * 2 + 1 + 1 by omega]
    simp only [flat, List.set_cons_succ]
    rw [flat_set L i t x (by simpa using h)]
theorem SpOwn.set2 {w : World} {base g c : Nat} {L : List Spd} (h : SpOwn w base (.slice (some ⟨g, 0, none⟩) L.length c) L) (i : Nat) (hi : i < L.length) (t x : Int) :
    SpOwn ((w.setCell ⟨g, i * 2, none⟩ (.int .i64 t)).setCell ⟨g, i * 2 + 1, none⟩ (.int .i64 x)) base (.slice (some ⟨g, 0, none⟩) L.length c) (L.set i (t, x)) := by
  rcases h.2 with ⟨h0, _⟩ | ⟨g', cap, cur, hv, hg, hh, hnc, hcm, hcs, htk⟩
  · cases h0
  · injection hv with h1 h2 h3
    injection h1 with h1
    injection h1 with h1
    subst h1; subst h3
    refine ⟨flat_len _, .inr ⟨g, c, (cur.setIfInBounds (i * 2) (.int .i64 t)).setIfInBounds (i * 2 + 1) (.int .i64 x), by simp, hg, ?_, by simpa using hnc, hcm, by simpa using hcs, ?_⟩⟩
    · simp [World.setCell, Array.getElem?_modify, hh]
    · rw [← flat_set L i t x hi, ← htk]
      simp only [Array.toList_setIfInBounds, List.length_set]
      rw [List.take_set, List.take_set]
theorem SpOwn.slot {w : World} {base g c : Nat} {L : List Spd} (h : SpOwn w base (.slice (some ⟨g, 0, none⟩) L.length c) L) (i : Nat) (hi : i < L.length) :
    g < w.heap.size ∧ base ≤ g ∧ w.cell? ⟨g, i * 2, none⟩ = some (.int .i64 (tS L i)) ∧ w.cell? ⟨g, i * 2 + 1, none⟩ = some (.int .i64 (cS L i)) ∧ ∀ j, w.frozen? ⟨g, j, none⟩ = false := by
  obtain ⟨A, c', e, hA, -, hb⟩ := h.at_
  injection e with e1 e2 e3
  subst e1
  obtain ⟨b, off, e, hbl, q1, q2⟩ := hA i hi
  injection e with e
  injection e with e1 e2
  subst e1; subst e2
  rw [Nat.zero_add] at q1 q2
  refine ⟨hbl, (hb _ _ rfl).1, q1, q2, fun j => ?_⟩
  rcases h.2 with ⟨h0, _⟩ | ⟨g', cap, cur, hv, hg, hh, _⟩
  · cases h0
  · injection hv with h1
    injection h1 with h1
    injection h1 with h1
    subst h1
    simp [World.frozen?, hh]
def keepL (T : Spd → Bool) (S : List Spd) (j : Nat) : List Spd := (S.take j).filter fun y => !T y
theorem keepL_succ {T : Spd → Bool} {S : List Spd} {j : Nat} (hj : j < S.length) : keepL T S (j + 1) = keepL T S j ++ if T (S.getD j (0, 0)) then [] else [S.getD j (0, 0)] := by
  have e : S.take (j + 1) = S.take j ++ [S.getD j (0, 0)] := by
    rw [List.take_succ_eq_append_getElem hj]; simp [List.getD_eq_getElem?_getD, hj]
  unfold keepL
  rw [e, List.filter_append]
  congr 1
  generalize S.getD j (0, 0) = y
  cases h : T y <;> simp [h]
theorem keepL_del {T : Spd → Bool} {S : List Spd} {j : Nat} (hj : j < S.length) (h : T (S.getD j (0, 0)) = true) : keepL T S (j + 1) = keepL T S j := by
  rw [keepL_succ hj, h]; simp
theorem keepL_keep {T : Spd → Bool} {S : List Spd} {j : Nat} (hj : j < S.length) (h : T (S.getD j (0, 0)) = false) : keepL T S (j + 1) = keepL T S j ++ [S.getD j (0, 0)] := by
  rw [keepL_succ hj, h]; rfl
theorem keepL_all {T : Spd → Bool} {S : List Spd} : ∀ k, k ≤ S.length → (∀ j, j < k → T (S.getD j (0, 0)) = false) → keepL T S k = S.take k
  | 0, _, _ => by simp [keepL]
  | k + 1, hk, h => by
    rw [keepL_keep (by omega) (h k (by omega)), keepL_all k (by omega) (fun j hj => h j (by omega)), List.take_succ_eq_append_getElem (show k < S.length by omega)]
    simp [List.getD_eq_getElem?_getD, show k < S.length by omega]
theorem keepL_end (T : Spd → Bool) (S : List Spd) : keepL T S S.length = S.filter fun y => !T y := by unfold keepL; rw [List.take_length]
/-- The loop of DeleteFunc, under way: i entries kept of the first j. -/
def DelInv (T : Spd → Bool) (S : List Spd) (g c base : Nat) (w : World) (j i : Nat) (wr : World) : Prop :=
  ∃ L X, i = (keepL T S j).length ∧ L = keepL T S j ++ X ++ S.drop j ∧ 0 < X.length ∧ i + X.length = j ∧ L.length = S.length ∧ SpOwn wr base (.slice (some ⟨g, 0, none⟩) L.length c) L ∧ w.grownBy wr (some g)
theorem getD_mid {A X : List Spd} {S : List Spd} {j : Nat} (h : A.length + X.length = j) (_ : j < S.length) : (A ++ X ++ S.drop j).getD j (0, 0) = S.getD j (0, 0) := by
  simp only [List.getD_eq_getElem?_getD]
  rw [List.getElem?_append_right (by simp; omega)]
  simp [show j - (A.length + X.length) = 0 by omega]
theorem DelInv.facts {T : Spd → Bool} {S : List Spd} {g c base : Nat} {w wr : World} {j i : Nat} (h : DelInv T S g c base w j i wr) (hj : j < S.length) :
    g < wr.heap.size ∧ base ≤ g ∧ i < j ∧ wr.cell? ⟨g, j * 2, none⟩ = some (.int .i64 (tS S j)) ∧ wr.cell? ⟨g, j * 2 + 1, none⟩ = some (.int .i64 (cS S j)) ∧ (∃ a, wr.cell? ⟨g, i * 2, none⟩ = some a) ∧ (∃ a, wr.cell? ⟨g, i * 2 + 1, none⟩ = some a) ∧ (∀ k, wr.frozen? ⟨g, k, none⟩ = false) ∧ w.grownBy wr (some g) := by
  obtain ⟨L, X, h1, h2, h3, h4, h5, h6, h7⟩ := h
  obtain ⟨a1, a2, a3, a4, a5⟩ := h6.slot j (by omega)
  obtain ⟨-, -, b3, b4, -⟩ := h6.slot i (by omega)
  have e : L.getD j (0, 0) = S.getD j (0, 0) := by rw [h2]; exact getD_mid (by omega) hj
  rw [show tS L j = tS S j by unfold tS; rw [e]] at a3
  rw [show cS L j = cS S j by unfold cS; rw [e]] at a4
  exact ⟨a1, a2, by omega, a3, a4, ⟨_, b3⟩, ⟨_, b4⟩, a5, h7⟩
theorem drop_getD {S : List Spd} {j : Nat} (hj : j < S.length) : S.drop j = S.getD j (0, 0) :: S.drop (j + 1) := by
  rw [List.drop_eq_getElem_cons hj]; simp [List.getD_eq_getElem?_getD, hj]
theorem DelInv.drop {T : Spd → Bool} {S : List Spd} {g c base : Nat} {w wr w' : World} {j i : Nat} (h : DelInv T S g c base w j i wr) (hj : j < S.length) (hT : T (S.getD j (0, 0)) = true) (hb : Below wr.heap.size wr w') : DelInv T S g c base w (j + 1) i w' := by
  obtain ⟨L, X, h1, h2, h3, h4, h5, h6, h7⟩ := h
  refine ⟨L, X ++ [S.getD j (0, 0)], by rw [keepL_del hj hT]; exact h1, ?_, by simp, by simp; omega, h5, h6.below hb, grown_trans h7 (grown_of_below hb)⟩
  rw [h2, keepL_del hj hT, drop_getD hj]; simp
theorem DelInv.keep {T : Spd → Bool} {S : List Spd} {g c base : Nat} {w wr w' : World} {j i : Nat} (h : DelInv T S g c base w j i wr) (hj : j < S.length) (hT : T (S.getD j (0, 0)) = false) (hb : Below wr.heap.size wr w') :
    DelInv T S g c base w (j + 1) (i + 1) ((w'.setCell ⟨g, i * 2, none⟩ (.int .i64 (tS S j))).setCell ⟨g, i * 2 + 1, none⟩ (.int .i64 (cS S j))) := by
  obtain ⟨L, X, h1, h2, h3, h4, h5, h6, h7⟩ := h
  obtain ⟨x, X', rfl⟩ : ∃ x X', X = x :: X' := by
    cases X with
    | nil => simp at h3
    | cons x X' => exact ⟨x, X', rfl⟩
  have hi : i < L.length := by simp at h4; omega
  have e : L.set i (S.getD j (0, 0)) = keepL T S (j + 1) ++ (X' ++ [S.getD j (0, 0)]) ++ S.drop (j + 1) := by
    rw [h2, h1, keepL_keep hj hT, drop_getD hj, List.append_assoc, List.set_append_right _ _ (Nat.le_refl _)]
    simp
  have hs := (h6.below hb).set2 i hi (tS S j) (cS S j)
  rw [show ((tS S j, cS S j) : Spd) = S.getD j (0, 0) from rfl] at hs
  have hgr : w.grownBy ((w'.setCell ⟨g, i * 2, none⟩ (.int .i64 (tS S j))).setCell ⟨g, i * 2 + 1, none⟩ (.int .i64 (cS S j))) (some g) := by
    refine grown_trans (grown_trans h7 (grown_of_below hb)) ⟨rfl, rfl, rfl, by simp [World.setCell], fun k hk hne => ?_⟩
    have hkg : k ≠ g := fun e => hne (by rw [e])
    exact (Below.heap_setCell _ _ _ k hkg).trans (Below.heap_setCell _ _ _ k hkg)
  refine ⟨L.set i (S.getD j (0, 0)), X' ++ [S.getD j (0, 0)], by rw [keepL_keep hj hT]; simp [h1], e, by simp, by simp at h4 ⊢; omega, by simpa using h5, ?_, hgr⟩
  rw [List.length_set]; exact hs
theorem DelInv.start {T : Spd → Bool} {S : List Spd} {g c base : Nat} {w wr : World} {k : Nat} (hk : k < S.length) (hT : T (S.getD k (0, 0)) = true) (hall : ∀ j, j < k → T (S.getD j (0, 0)) = false) (hown : SpOwn wr base (.slice (some ⟨g, 0, none⟩) S.length c) S) (hg : w.grownBy wr (some g)) :
    DelInv T S g c base w (k + 1) k wr := by
  refine ⟨S, [S.getD k (0, 0)], ?_, ?_, by simp, by simp, rfl, hown, hg⟩
  · rw [keepL_del hk hT, keepL_all k (by omega) hall]; simp; omega
  · rw [keepL_del hk hT, keepL_all k (by omega) hall, List.append_assoc, List.singleton_append, ← drop_getD hk, List.take_append_drop]
end Go.Proofs.Ytmnkgfimdlhhiaa
namespace Go.Proofs.Ytmnkgfimdlhhiaa
open Go.RowKit

theorem zero_spends (n : Nat) : (Builtin.zeroCells #[Value.int .i64 0, Value.int .i64 0] n).toList = List.replicate (n * 2) (Value.int .i64 0) := by
  simp only [Builtin.zeroCells]
  apply List.ext_getElem
  · simp
  · intro i h1 h2
    simp
    rcases Nat.mod_two_eq_zero_or_one i with h | h <;> simp [h]
theorem zeroS (w : World) : (zeroValue 33).run Try.prog w = .ok (.agg #[.int .i64 0, .int .i64 0]) w := by kernel_rfl
theorem SpOwn.cap {w : World} {base g n c : Nat} {L : List Spd} (h : SpOwn w base (.slice (some ⟨g, 0, none⟩) n c) L) : L.length ≤ c := by
  rcases h.2 with ⟨h0, _⟩ | ⟨g', cap, cur, hv, hg, hh, hnc, _⟩
  · cases h0
  · injection hv with h1 h2 h3
    subst h3; exact hnc
theorem clear_run {w : World} {base g c : Nat} {L : List Spd} (h : SpOwn w base (.slice (some ⟨g, 0, none⟩) L.length c) L) (i : Nat) (hi : i < L.length) (c' : Nat) :
    ∃ w', (∀ ty, (Builtin.clear_ #[22] ty #[.slice (some ⟨g, i * 2, none⟩) (L.length - i) c']).run Try.prog w = .ok (.tuple #[]) w') ∧ SpOwn w' base (.slice (some ⟨g, 0, none⟩) i c) (L.take i) ∧ w.grownBy w' (some g) := by
  rcases h.2 with ⟨h0, _⟩ | ⟨g', cap, cur, hv, hg, hh, hnc, hcm, hcs, htk⟩
  · cases h0
  · injection hv with h1 h2 h3
    injection h1 with h1
    injection h1 with h1
    subst h1; subst h3
    have hst := run_storeCells_at (P := Try.prog) g (i * 2) 33 (List.replicate ((L.length - i) * 2) (Value.int .i64 0)) 0 cur w hh (by simp; omega) (by intro v hv; rw [List.eq_of_mem_replicate hv]; rfl)
    obtain ⟨cs, hcs2⟩ : ∃ cs : Array Value, cs = (cur.toList.take (i * 2 + 0) ++ List.replicate ((L.length - i) * 2) (Value.int .i64 0) ++ cur.toList.drop (i * 2 + 0 + (List.replicate ((L.length - i) * 2) (Value.int .i64 0)).length)).toArray := ⟨_, rfl⟩
    rw [← hcs2] at hst
    refine ⟨w.setRow g cs, fun ty => ?_, ?_, ⟨rfl, rfl, rfl, by simp [World.setRow], fun k _ hne => setRow_other w g k cs (fun e => hne (by rw [e]))⟩⟩
    · clear hcs2
      obtain ⟨m, hm⟩ : ∃ m, L.length - i = m + 1 := ⟨L.length - i - 1, by omega⟩
      rw [hm] at hst ⊢
      have hz := zero_spends (m + 1)
      simp only [Builtin.clear_]
      simp [run_underlying Try.underlying22, Value.cells, hz, hst, Result.andThen]
    · have hl : (L.take i).length = i := by simp; omega
      refine ⟨by rw [flat_len, hl], .inr ⟨g, c, cs, by rw [hl], hg, setRow_heap w g cur _ _ _ hh, by omega, hcm, ?_, ?_⟩⟩
      · rw [hcs2]; simp; omega
      · have e : flat L = flat (L.take i) ++ flat (L.drop i) := by rw [← flat_append, List.take_append_drop]
        have e2 : List.take (i * 2) cur.toList = flat (L.take i) := by
          have h3 : List.take (i * 2) (List.take (L.length * 2) cur.toList) = List.take (i * 2) cur.toList := by rw [List.take_take]; congr 1; omega
          rw [← h3, htk, e, List.take_append_of_le_length (by rw [flat_len, hl]; exact Nat.le_refl _), List.take_of_length_le (by rw [flat_len, hl]; exact Nat.le_refl _)]
        rw [hcs2, Nat.add_zero, List.append_assoc, List.take_append_of_le_length (by simp; omega), List.take_take, hl, Nat.min_self, e2]

/-- The slice of what is kept; the block g alone has turned. -/
def DelP (w : World) (base g : Nat) (S : List Spd) (e : Ending) (w' : World) : Prop := ∃ v, e = .returned v ∧ SpOwn w' base v S ∧ w.grownBy w' (some g)
theorem filter_none {T : Spd → Bool} {S : List Spd} (h : ∀ j, j < S.length → T (S.getD j (0, 0)) = false) : S = S.filter fun y => !T y := by
  rw [← keepL_end, keepL_all S.length (Nat.le_refl _) h, List.take_length]
set_option maxRecDepth 100000 in
set_option maxHeartbeats 1000000 in
theorem deleteFunc_any (n : Nat) (u1 u2 : Value) (T : Spd → Bool) (base g c : Nat) (S : List Spd) (w : World) (hown : SpOwn w base (.slice (some ⟨g, 0, none⟩) S.length c) S) (hl : S.length ≤ 100000) (hn : ∀ args w, (callFunc n args).run Try.prog w = .ok (.enter n args) w)
    (hT : ∀ w', w.grownBy w' (some g) → ∀ k, k < S.length → Calls Try.prog n #[.agg #[.int .i64 (tS S k), .int .i64 (cS S k)], u1, u2] w' (RetB (.bool (T (S.getD k (0, 0)))) w')) :
    Calls Try.prog 52 #[.slice (some ⟨g, 0, none⟩) S.length c, .func (.func n) #[] #[u1, u2]] w (DelP w base g (S.filter fun y => !T y)) := by
  have HOWN := Lib.hid hown
  have HT := Lib.hid hT
  clear hown hT
  go_enter Try.func52, Try.ntmps52
  go_wp2_with fail
  obtain ⟨C, c', ec, hC, -, -⟩ := HOWN.out.at_
  injection ec with ec1 ec2 ec3
  subst ec1; subst ec3
  refine (indexFunc_any n u1 u2 T (some ⟨g, 0, none⟩) S c _ hC hl hn (fun w' hb k hk => HT.out w' (grown_of_below hb) k hk)).mono ?_
  rintro e w1 ⟨i, rfl, hi, hb⟩
  clear hC
  rcases hi with ⟨rfl, hall⟩ | ⟨k, rfl, hk, hTk, hall⟩
  · have HV := Lib.hid (filter_none hall)
    clear hall
    go_wp2_with fail
    go_ret
    exact ⟨_, rfl, by rw [← HV.out]; exact HOWN.out.below hb, grown_of_below hb⟩
  · have HD := Lib.hid (DelInv.start hk hTk hall (HOWN.out.below hb) (grown_of_below (r := some g) hb))
    have e1 : ((k : Int) == -1) = false := by simp
    clear hall hTk
    go_wp2_with fail
    go_loopw [6, 5] (fun j i wr => ∃ j' i' : Nat, j' ≤ S.length ∧ j = .int .i64 j' ∧ i = .int .i64 i' ∧ DelInv T S g c base w j' i' wr) (fun j _ _ => S.length - (intOf j).toNat)
    case atStart => exact ⟨k + 1, k, by omega, by go_num, rfl, HD.out⟩
    case round =>
      obtain ⟨j, i, hj, rfl, rfl, hinv⟩ := hrel
      have HI := Lib.hid hinv
      clear hinv
      by_cases hlt : j < S.length
      · obtain ⟨a1, a2, a3, a4, a5, ⟨q6, a6⟩, ⟨q7, a7⟩, a8, a9⟩ := HI.out.facts hlt
        have g0 := a8 (i * 2)
        have g1 := a8 (i * 2 + 1)
        clear a8
        go_wp2_with fail
        have hgr := Lib.hid (grown_trans a9 (grown_of_below (r := some g) (below_alloc wr (.cells #[.int .i64 (tS S j), .int .i64 (cS S j)] 33))))
        refine ret_below (HT.out _ hgr.out j hlt) fun w2 hb2 => ?_
        generalize hx : T (S.getD j (0, 0)) = tv at *
        have HX := Lib.hid hx
        clear hx
        have hbw : Below wr.heap.size wr w2 := (below_alloc _ _).trans (hb2.mono (by simp))
        cases tv with
        | true =>
          have HN := Lib.hid (HI.out.drop hlt HX.out hbw)
          clear HI hgr a9
          go_wp2_with fail
          go_roundw
          case rel => exact ⟨j + 1, i, by omega, by go_num, rfl, HN.out⟩
          case measure => simp [intOf]; omega
        | false =>
          have HN := Lib.hid (HI.out.keep hlt HX.out hbw)
          have m6 := (hbw.cell (p := ⟨g, i * 2, none⟩) a1).trans a6
          have m7 := (hbw.cell (p := ⟨g, i * 2 + 1, none⟩) a1).trans a7
          have m0 := (hbw.frozen (p := ⟨g, i * 2, none⟩) a1).trans g0
          have m1 := (hbw.frozen (p := ⟨g, i * 2 + 1, none⟩) a1).trans g1
          obtain ⟨p0, p1⟩ := pair_cells wr (tS S j) (cS S j)
          have r0 := (hb2.cell (p := ⟨wr.heap.size, 0, none⟩) (by simp)).trans p0
          have r1 := (hb2.cell (p := ⟨wr.heap.size, 1, none⟩) (by simp)).trans p1
          clear HI hgr a9 a6 a7 g0 g1 p0 p1
          go_wp2_with fail
          go_roundw
          case rel => exact ⟨j + 1, i + 1, by omega, by go_num, by go_num, HN.out⟩
          case measure => simp [intOf]; omega
      · have hje : j = S.length := by omega
        subst hje
        obtain ⟨L, X, h1, h2, h3, h4, h5, h6, h7⟩ := HI.out
        have hiL : i < L.length := by omega
        obtain ⟨w3, hrun, hown3, hg3⟩ := clear_run h6 i hiL (c - i)
        have hres : L.take i = S.filter fun y => !T y := by
          rw [h2, h1, List.append_assoc, List.take_left', keepL_end]; rfl
        rw [h5] at hrun
        have HR := Lib.hid (show DelP w base g (S.filter fun y => !T y) (.returned (.slice (some ⟨g, 0, none⟩) i c)) w3 from ⟨_, rfl, by rw [← hres]; exact hown3, grown_trans h7 hg3⟩)
        have hi2 : i ≤ S.length := by omega
        have hi3 := HOWN.out.cap
        have hi4 : i ≤ c := by omega
        clear h1 h2 h3 h4 h6 h7 hown3 hg3 hres HI
        go_wp2_with fail
        go_ret
        exact HR.out
end Go.Proofs.Ytmnkgfimdlhhiaa
namespace Go.Proofs.Ytmnkgfimdlhhiaa
open Go.RowKit

def goneT (P t : Int) (y : Spd) : Bool := decide (y.1 / P < t / P)
def keepC (P t : Int) (y : Spd) : Bool := decide (t / P * P ≤ y.1)
theorem gone_keep {P t : Int} (hP : 1 ≤ P) (S : List Spd) : (S.filter fun y => !goneT P t y) = S.filter (keepC P t) := by
  congr 1
  funext y
  unfold goneT keepC
  have := Int.ediv_lt_iff_lt_mul (a := y.1) (b := t / P) (c := P) (by omega)
  by_cases h : y.1 < t / P * P
  · rw [decide_eq_true (this.2 h), decide_eq_false (by omega)]; rfl
  · rw [decide_eq_false (fun h2 => h (this.1 h2)), decide_eq_true (by omega)]; rfl
noncomputable def clE (P A : Int) (S : List Spd) (t : Int) : Int := @ite _ (¬ BudOK P A S) (Classical.propDecidable _) 56 (if ¬ (0 ≤ t ∧ t ≤ 1099511627776) then 16 else 0)
noncomputable def clS (P A : Int) (S : List Spd) (t : Int) : List Spd := if clE P A S t = 0 then S.filter (keepC P t) else S
theorem clE_bad {P A : Int} {S : List Spd} {t : Int} (h : ¬ BudOK P A S) : 56 = clE P A S t := by
  unfold clE; rw [@if_pos _ (Classical.propDecidable _) h]
theorem clE_time {P A : Int} {S : List Spd} {t : Int} (h : BudOK P A S) (h2 : ¬ (0 ≤ t ∧ t ≤ 1099511627776)) : 16 = clE P A S t := by
  unfold clE; rw [@if_neg _ (Classical.propDecidable _) (fun hh => hh h), if_pos h2]
theorem clE_ok {P A : Int} {S : List Spd} {t : Int} (h : BudOK P A S) (h2 : 0 ≤ t ∧ t ≤ 1099511627776) : 0 = clE P A S t := by
  unfold clE; rw [@if_neg _ (Classical.propDecidable _) (fun hh => hh h), if_neg (fun hh => hh h2)]
theorem clS_err {P A : Int} {S : List Spd} {t E : Int} (h : E = clE P A S t) (hE : E ≠ 0) : E = clE P A S t ∧ S = clS P A S t := ⟨h, by unfold clS; rw [if_neg (by rw [← h]; exact hE)]⟩
theorem clS_ok {P A : Int} {S : List Spd} {t : Int} (h : 0 = clE P A S t) : 0 = clE P A S t ∧ S.filter (keepC P t) = clS P A S t := ⟨h, by unfold clS; rw [if_pos h.symm]⟩

theorem enter_clean (args : Array Value) (w : World) : (callFunc 53 args).run Try.prog w = .ok (.enter 53 args) w :=
  MuLone.run_callFunc_enter Try.func53 (by kernel_rfl) rfl args w
set_option maxHeartbeats 400000 in
theorem cleanT_any (x y : Nat) (P A : Int) (v : Value) (t c time : Int) (w : World) (hP : 1 ≤ P ∧ P ≤ 1099511627776) (hx : BudCell w x P A v) (hy : IntCell w y time) (h1 : 0 ≤ t ∧ t ≤ 1099511627776) (h2 : 0 ≤ time ∧ time ≤ 2199023255552) :
    Calls Try.prog 53 #[.agg #[.int .i64 t, .int .i64 c], .pointer (some ⟨x, 0, none⟩), .pointer (some ⟨y, 0, none⟩)] w (RetB (.bool (decide (t / P < time / P))) w) := by
  obtain ⟨p1, p2⟩ := hP
  obtain ⟨t1, t2⟩ := h1
  obtain ⟨m1, m2⟩ := h2
  have q1 : t.tdiv P = t / P := Int.tdiv_eq_ediv_of_nonneg t1
  have q2 : time.tdiv P = time / P := Int.tdiv_eq_ediv_of_nonneg m1
  have z1 : ¬ P = 0 := by omega
  have z2 : (P == 0) = false := by simp; omega
  have b1 := Int.ediv_nonneg t1 (show 0 ≤ P by omega)
  have b2 := Int.ediv_le_self P t1
  have b3 := Int.ediv_nonneg m1 (show 0 ≤ P by omega)
  have b4 := Int.ediv_le_self P m1
  have v1 : IntKind.i64.wrap (t / P) = t / P := IntWalk.i64_in _ (by omega)
  have v2 : IntKind.i64.wrap (time / P) = time / P := IntWalk.i64_in _ (by omega)
  have HX := Lib.hid hx
  have HY := Lib.hid hy
  clear hx hy
  go_enter Try.func53, Try.ntmps53
  go_wp2_with fail
  refine gen_world fun w1 hw1 => ?_
  have hb : Below w.heap.size w w1 := by rw [hw1]; exact below_alloc _ _
  obtain ⟨e0, e1⟩ : w1.cell? ⟨w.heap.size, 0, none⟩ = some (.int .i64 t) ∧ w1.cell? ⟨w.heap.size, 1, none⟩ = some (.int .i64 c) := by rw [hw1]; exact pair_cells w t c
  have ex := (HX.out.below hb).c0
  have ey := (HY.out.below hb).c0
  clear hw1
  go_quiet (fail)
  go_wp2
  go_ret
  exact RetB.bool rfl (below_drewN hb _)

set_option maxRecDepth 100000 in
set_option maxHeartbeats 1000000 in
theorem deleteFunc_nil (n : Nat) (u1 u2 : Value) (base g : Nat) (w : World) (hn : ∀ args w, (callFunc n args).run Try.prog w = .ok (.enter n args) w) :
    Calls Try.prog 52 #[.slice none 0 0, .func (.func n) #[] #[u1, u2]] w (DelP w base g []) := by
  go_enter Try.func52, Try.ntmps52
  go_wp2_with fail
  refine (indexFunc_any n u1 u2 (fun _ => true) none [] 0 _ (SpAt.nil _ _) (by simp) hn (fun w' hb k hk => absurd hk (by simp))).mono ?_
  rintro e w1 ⟨i, rfl, hi, hb⟩
  rcases hi with ⟨rfl, hall⟩ | ⟨k, rfl, hk, -, -⟩
  · clear hall
    go_wp2_with fail
    go_ret
    exact ⟨_, rfl, SpOwn.nil _ _, grown_of_below hb⟩
  · exact absurd hk (by simp)

/-- The budget in its box, the time in its cell, the result's cell, the call's own spends. -/
structure Cl (w wr : World) (P A t : Int) (v : Value) (S : List Spd) : Prop where
  box : BudCell wr w.heap.size P A v
  tm : IntCell wr (w.heap.size + 1) t
  res : BudCell wr (w.heap.size + 2) 0 0 (.slice none 0 0)
  own : SpOwn wr (w.heap.size + 3) v S
  below : Below w.heap.size w wr
  size : w.heap.size + 3 ≤ wr.heap.size
theorem Cl.later {w wr w' : World} {P A t : Int} {v : Value} {S : List Spd} (h : Cl w wr P A t v S) (hb : Below wr.heap.size wr w') : Cl w w' P A t v S :=
  ⟨h.box.below hb, h.tm.below hb, h.res.below hb, h.own.below hb, h.below.trans (hb.mono (Nat.le_trans (by omega) h.size)), Nat.le_trans h.size hb.size⟩
theorem Cl.done {w wr : World} {P A t : Int} {v : Value} {S : List Spd} (h : Cl w wr P A t v S) :
    BudCell (((wr.setCell ⟨w.heap.size + 2, 0, none⟩ (.int .i64 P)).setCell ⟨w.heap.size + 2, 1, none⟩ (.int .i64 A)).setCell ⟨w.heap.size + 2, 2, none⟩ v) (w.heap.size + 2) P A v ∧
    SpOwn (((wr.setCell ⟨w.heap.size + 2, 0, none⟩ (.int .i64 P)).setCell ⟨w.heap.size + 2, 1, none⟩ (.int .i64 A)).setCell ⟨w.heap.size + 2, 2, none⟩ v) w.heap.size v S ∧
    Below w.heap.size w (((wr.setCell ⟨w.heap.size + 2, 0, none⟩ (.int .i64 P)).setCell ⟨w.heap.size + 2, 1, none⟩ (.int .i64 A)).setCell ⟨w.heap.size + 2, 2, none⟩ v) :=
  ⟨((h.res.set0 P).set1 A).set2 v, (((h.own.set_ _ _ (by simp)).set_ _ _ (by simp)).set_ _ _ (by simp)).mono (by omega),
    below_set (below_set (below_set h.below _ _ (by simp)) _ _ (by simp)) _ _ (by simp)⟩
theorem size_alloc3 (w : World) (a b c : Obj) : (((w.alloc a).alloc b).alloc c).heap.size = w.heap.size + 3 := by simp
theorem IntCell.other {w : World} {x : Nat} {n : Int} (h : IntCell w x n) (p : Addr) (u : Value) (hp : x ≠ p.block) : IntCell (w.setCell p u) x n :=
  (Below.heap_setCell w p u x hp).trans h
theorem Cl.start {w w1 : World} {P A t : Int} {v v' : Value} {S : List Spd} (hb : Below (((w.alloc (.cells #[.int .i64 P, .int .i64 A, v] 24)).alloc (.cells #[.int .i64 t] 3)).alloc (.cells #[.int .i64 0, .int .i64 0, .slice none 0 0] 24)).heap.size (((w.alloc (.cells #[.int .i64 P, .int .i64 A, v] 24)).alloc (.cells #[.int .i64 t] 3)).alloc (.cells #[.int .i64 0, .int .i64 0, .slice none 0 0] 24)) w1)
    (hown : SpOwn w1 (((w.alloc (.cells #[.int .i64 P, .int .i64 A, v] 24)).alloc (.cells #[.int .i64 t] 3)).alloc (.cells #[.int .i64 0, .int .i64 0, .slice none 0 0] 24)).heap.size v' S) :
    BudCell w1 w.heap.size P A v ∧ Cl w (w1.setCell ⟨w.heap.size, 2, none⟩ v') P A t v' S := by
  have hs := hb.size
  simp only [size_alloc3] at hs hown
  have h1 : BudCell w1 w.heap.size P A v := (((BudCell.new _ _ _ rfl).alloc _).alloc _).below hb
  have h4 : IntCell w1 (w.heap.size + 1) t := ((IntCell.new _ (by simp)).alloc _).below hb
  have h2 : BudCell w1 (w.heap.size + 2) 0 0 (.slice none 0 0) := (BudCell.new _ _ _ (by simp)).below hb
  have h3 : Below w.heap.size w w1 := below_of_alloc (below_of_alloc (below_of_alloc (hb.mono (by simp; omega)) (by simp; omega)) (by simp)) (Nat.le_refl _)
  exact ⟨h1, h1.set2 _, h4.other _ _ (by simp), h2.other _ _ (by simp), hown.set_ _ _ (by simp), below_set h3 _ _ (by simp), by simpa [World.setCell] using hs⟩
theorem Cl.deleted {w wr w' : World} {P A t : Int} {v v' : Value} {S S' : List Spd} {g : Nat} (h : Cl w wr P A t v S) (hgb : w.heap.size + 3 ≤ g) (hg : wr.grownBy w' (some g)) (hown : SpOwn w' (w.heap.size + 3) v' S') :
    (BudCell w' w.heap.size P A v ∧ IntCell w' (w.heap.size + 1) t ∧ BudCell w' (w.heap.size + 2) 0 0 (.slice none 0 0)) ∧ Cl w (w'.setCell ⟨w.heap.size, 2, none⟩ v') P A t v' S' := by
  have hsz := h.size
  have hk : ∀ k, k < w.heap.size + 3 → w'.heap[k]? = wr.heap[k]? := fun k hk => hg.block k (by omega) (fun e => by injection e with e; omega)
  have h1 : BudCell w' w.heap.size P A v := (hk _ (by omega)).trans h.box
  have h4 : IntCell w' (w.heap.size + 1) t := (hk _ (by omega)).trans h.tm
  have h2 : BudCell w' (w.heap.size + 2) 0 0 (.slice none 0 0) := (hk _ (by omega)).trans h.res
  have h3 : Below w.heap.size w w' := h.below.grown hg (by omega) (fun k e => by injection e with e; omega)
  have hs := hg.size
  exact ⟨⟨h1, h4, h2⟩, h1.set2 _, h4.other _ _ (by simp), h2.other _ _ (by simp), hown.set_ _ _ (by simp), below_set h3 _ _ (by simp), by simp [World.setCell]; omega⟩

set_option maxRecDepth 100000 in
set_option maxHeartbeats 4000000 in
theorem clean_any (P A : Int) (B : Option Addr) (S : List Spd) (c : Nat) (t : Int) (w : World) (hS : SpAt w B S) (hA : ∀ a, B = some a → a.spot = none ∨ S.length = 0) (hN : B = none → S.length = 0 ∧ c = 0) (hl : S.length ≤ 100000) :
    Calls Try.prog 22 #[.agg #[.int .i64 P, .int .i64 A, .slice B S.length c], .int .i64 t] w (SpendP w P A (clS P A S t) (clE P A S t)) := by
  have HS := Lib.hid hS
  clear hS
  have hmf' := hmf
  go_enter Try.func22, Try.ntmps22
  go_wp2_with fail
  refine (clone_any B S c _ (((HS.out.alloc _).alloc _).alloc _) hA hN hl).mono ?_
  rintro e w1 ⟨v, rfl, hown, hb⟩
  obtain ⟨C, c', rfl, -, -, -⟩ := hown.at_
  obtain ⟨hX, hSt⟩ := Cl.start hb hown
  have x2 := hX.c2
  have f2 := hX.frozen 2
  have x0 := hX.c0
  have x1 := hX.c1
  clear hX hb hown hA hN HS
  go_wp2_with fail
  clear x0 x1 x2 f2
  obtain ⟨C', c'', ec, hC, hCN, hCb⟩ := hSt.own.at_
  injection ec with ec1 ec2 ec3
  subst ec1; subst ec3
  refine ret_below (check_any P A C S c' _ hC hl) fun w3 hb3 => ?_
  have hSt3 := hSt.later hb3
  clear hSt hb3 hC
  have x0 := hSt3.box.c0
  have x1 := hSt3.box.c1
  have x2 := hSt3.box.c2
  have t0 := hSt3.tm.c0
  have y0 := hSt3.res.c0
  have y1 := hSt3.res.c1
  have y2 := hSt3.res.c2
  have f0 := hSt3.res.frozen 0
  have f1 := hSt3.res.frozen 1
  have f2 := hSt3.res.frozen 2
  have hs3 := hSt3.size
  have HST := Lib.hid hSt3
  have HCN := Lib.hid hCN
  have HCB := Lib.hid hCb
  clear hSt3 hCN hCb
  by_cases hok : BudOK P A S
  case neg =>
    have HV := Lib.hid (clS_err (clE_bad (t := t) hok) (by omega))
    rw [← budE_bad hok]
    clear hok
    go_wp2_with fail
    obtain ⟨d1, d2⟩ := HST.out.done
    exact bodyPost_ret (results_bud2 rfl _ _ (w.heap.size + 2) rfl d1) rfl (SpendP.mk HV.out d2)
  case pos =>
  have HOK := Lib.hid hok
  rw [budE_ok hok]
  clear hok
  by_cases g0 : 0 ≤ t ∧ t ≤ 1099511627776
  case neg =>
    have HV := Lib.hid (clS_err (clE_time HOK.out g0) (by omega))
    have HT := Lib.hid g0
    clear g0
    go_wp2_with fail
    refine ret_pure (in_no t 0 1099511627776 HT.out _) ?_
    go_wp2_with fail
    obtain ⟨d1, d2⟩ := HST.out.done
    exact bodyPost_ret (results_bud2 rfl _ _ (w.heap.size + 2) rfl d1) rfl (SpendP.mk HV.out d2)
  case pos =>
  have HT := Lib.hid g0
  clear g0
  have HV := Lib.hid (clS_ok (clE_ok HOK.out HT.out))
  have HP := Lib.hid (show 1 ≤ P ∧ P ≤ 1099511627776 from ⟨HOK.out.1.1, HOK.out.1.2.1⟩)
  go_wp2_with fail
  refine ret_pure (in_yes t 0 1099511627776 HT.out _) ?_
  go_wp2_with fail
  obtain ⟨g, hgb, hgo⟩ : ∃ g, w.heap.size + 3 ≤ g ∧ Calls Try.prog 52 #[.slice C S.length c', .func (.func 53) #[] #[.pointer (some ⟨w.heap.size, 0, none⟩), .pointer (some ⟨w.heap.size + 1, 0, none⟩)]] w3 (DelP w3 (w.heap.size + 3) g (S.filter (keepC P t))) := by
    rcases C with _ | ⟨g, off, spot⟩
    · obtain rfl := HCN.out rfl
      have hS0 : S = [] := by
        rcases HST.out.own.2 with ⟨_, h0⟩ | ⟨g', cap, cur, hv, _⟩
        · exact List.eq_nil_of_length_eq_zero h0
        · cases hv
      subst hS0
      exact ⟨w.heap.size + 3, Nat.le_refl _, deleteFunc_nil _ _ _ _ _ _ enter_clean⟩
    · have hsp : off = 0 ∧ spot = none := by
        rcases HST.out.own.2 with ⟨h0, _⟩ | ⟨g', cap, cur, hv, _⟩
        · cases h0
        · injection hv with h1
          injection h1 with h1
          injection h1 with h1 h2 h3
          exact ⟨h2, h3⟩
      obtain ⟨rfl, rfl⟩ := hsp
      have hg3 := (HCB.out g 0 rfl).1
      refine ⟨g, hg3, ?_⟩
      rw [← gone_keep HP.out.1]
      refine deleteFunc_any 53 _ _ (goneT P t) (w.heap.size + 3) g c' S w3 HST.out.own hl enter_clean (fun w' hgr k hk => ?_)
      have hk' : ∀ k, k < w.heap.size + 3 → w'.heap[k]? = w3.heap[k]? := fun k hk => hgr.block k (by omega) (fun e => by injection e with e; omega)
      exact cleanT_any w.heap.size (w.heap.size + 1) P A (.slice (some ⟨g, 0, none⟩) S.length c') (tS S k) (cS S k) t w' HP.out ((hk' _ (by omega)).trans HST.out.box) ((hk' _ (by omega)).trans HST.out.tm) (RowOK.times HOK.out.2.1 k hk) ⟨HT.out.1, by have := HT.out.2; omega⟩
  refine hgo.mono ?_
  rintro e w6 ⟨v6, rfl, hown6, hg6⟩
  obtain ⟨⟨hX6, -, hR6⟩, hSt6⟩ := HST.out.deleted hgb hg6 hown6
  obtain ⟨C6, c6, e6, -, -, -⟩ := hown6.at_
  obtain ⟨m, hm⟩ : ∃ m, m = (S.filter (keepC P t)).length := ⟨_, rfl⟩
  rw [← hm] at e6
  subst e6
  clear x0 x1 x2 t0 y0 y1 y2 f0 f1 f2 hs3 HST hgo hg6 hown6 hm
  have z0 := hX6.c0
  have z1 := hX6.c1
  have z2 := hX6.c2
  have z3 := hX6.frozen 2
  have y0 := hR6.c0
  have y1 := hR6.c1
  have y2 := hR6.c2
  have f0 := hR6.frozen 0
  have f1 := hR6.frozen 1
  have f2 := hR6.frozen 2
  have HST6 := Lib.hid hSt6
  clear hX6 hR6 hSt6
  go_wp2_with fail
  obtain ⟨d1, d2⟩ := HST6.out.done
  exact bodyPost_ret (results_bud2 rfl _ _ (w.heap.size + 2) rfl d1) rfl (SpendP.mk HV.out d2)
end Go.Proofs.Ytmnkgfimdlhhiaa
namespace Go.Proofs.Ytmnkgfimdlhhiaa
open Go.RowKit

def keepN (P t : Int) (S : List Spd) (k : Nat) : List Spd := (S.take k).filter (keepC P t)
theorem keepN_yes {P t : Int} {S : List Spd} {k : Nat} (hk : k < S.length) (h : t / P * P ≤ tS S k) : keepN P t S (k + 1) = keepN P t S k ++ [(tS S k, cS S k)] := by
  have e : S.take (k + 1) = S.take k ++ [S.getD k (0, 0)] := by
    rw [List.take_succ_eq_append_getElem hk]; simp [List.getD_eq_getElem?_getD, hk]
  have hy : keepC P t (S.getD k (0, 0)) = true := decide_eq_true h
  unfold keepN
  rw [e, List.filter_append, List.filter_cons_of_pos hy]; rfl
theorem keepN_no {P t : Int} {S : List Spd} {k : Nat} (hk : k < S.length) (h : ¬ t / P * P ≤ tS S k) : keepN P t S (k + 1) = keepN P t S k := by
  have e : S.take (k + 1) = S.take k ++ [S.getD k (0, 0)] := by
    rw [List.take_succ_eq_append_getElem hk]; simp [List.getD_eq_getElem?_getD, hk]
  have hy : ¬ keepC P t (S.getD k (0, 0)) = true := by unfold keepC; rw [decide_eq_true_eq]; exact h
  unfold keepN
  rw [e, List.filter_append, List.filter_cons_of_neg hy]; simp
theorem keepN_len (P t : Int) (S : List Spd) (k : Nat) : (keepN P t S k).length ≤ S.length :=
  Nat.le_trans (List.length_filter_le _ _) (by simp; omega)
theorem keepN_end (P t : Int) (S : List Spd) : keepN P t S S.length = S.filter (keepC P t) := by unfold keepN; rw [List.take_length]
theorem news_pair (w : World) (t x : Int) : ∀ j u, [Value.int .i64 t, Value.int .i64 x][j]? = some u → (w.alloc (.cells #[.int .i64 t, .int .i64 x] 33)).cell? ((⟨w.heap.size, 0, none⟩ : Addr).add j) = some u := fun j u hu => by
  obtain ⟨h1, h2⟩ := pair_cells w t x
  match j, hu with
  | 0, hu => simp at hu; subst hu; exact h1
  | 1, hu => simp at hu; subst hu; exact h2
  | j + 2, hu => simp at hu
theorem app_kept {w3 w5 W w6 : World} {B x : Nat} {P A : Int} {v : Value} {o : Obj} {r : Option Nat} (hg : W.grownBy w6 r) (hb : Below B w3 w5) (hX : BudCell w5 x P A v) (hW : W.heap = (w5.alloc o).heap ∧ W.os = w5.os ∧ W.tape = w5.tape ∧ W.output = w5.output) (hx : some x ≠ r) (hr : ∀ k, r = some k → B ≤ k) (hz : B < w5.heap.size) :
    BudCell w6 x P A v ∧ Below B w3 w6 := by
  obtain ⟨e1, e2, e3, e4⟩ := hW
  have hb5 : Below B w3 (w5.alloc o) := hb.alloc (by omega) o
  have hbW : Below B w3 W := ⟨e2.trans hb.os, e3.trans hb.tape, e4.trans hb.output, by rw [e1]; exact hb5.size, fun k hk => by rw [e1]; exact hb5.block k hk⟩
  have hxl := blk_lt hX
  have hXW : BudCell W x P A v := by unfold BudCell; rw [e1]; exact (heap_alloc_old w5 o hxl).trans hX
  have hsz : W.heap.size = w5.heap.size + 1 := by rw [e1]; simp
  exact ⟨(hg.block x (by omega) hx).trans hXW, hbW.grown hg (by omega) hr⟩
theorem step_app_out {ops : Array Oper} {o : Oper} {a : Act} {K : Act → World → Prop} {Q : Exit → Act → World → Prop} {E : Prop} (W : World) (hgd : o.guard = none) (s x : Operand)
    (ho : o.op = .call { callee := .builtin .append, args := #[s, x], argTypes := #[22, 22] })
    (w3 w5 : World) (B y : Nat) (P A t c : Int) (v : Value) (n : Nat) (D : List Spd) (hs : a.eval s = v) (hx : a.eval x = .slice (some ⟨w5.heap.size, 0, none⟩) 1 1) (hW : W.heap = (w5.alloc (.cells #[.int .i64 t, .int .i64 c] 33)).heap ∧ W.os = w5.os ∧ W.tape = w5.tape ∧ W.output = w5.output)
    (hn : n = D.length) (hl : n ≤ 100000) (hown : SpOwn w5 (B + 1) v D) (hb : Below B w3 w5) (hX : BudCell w5 y P A v) (hy : y ≤ B) (hz : B < w5.heap.size)
    (h : ∀ g cap w', SpOwn w' (B + 1) (.slice (some ⟨g, 0, none⟩) (n + 1) cap) (D ++ [(t, c)]) → BudCell w' y P A v → Below B w3 w' → w'.cell? ⟨y, 2, none⟩ = some v → w'.frozen? ⟨y, 2, none⟩ = false → K (a.put o.dst (.slice (some ⟨g, 0, none⟩) (n + 1) cap)) w') :
    if Region.wanted o (yielded ops a.tmps) = true then Oper.wp Try.prog o a W K Q else E := by
  obtain ⟨i0, hi, hz0, hz1, hz2⟩ := info_parts info_spend
  have hownW : SpOwn W (B + 1) v D := by
    obtain ⟨h1, h2⟩ := hown.below (below_alloc w5 (.cells #[.int .i64 t, .int .i64 c] 33))
    refine ⟨h1, ?_⟩
    rw [hW.1]; exact h2
  have hsz : W.heap.size = w5.heap.size + 1 := by rw [hW.1]; simp
  have hcell : ∀ x, W.cell? x = (w5.alloc (.cells #[.int .i64 t, .int .i64 c] 33)).cell? x := fun x => by unfold World.cell?; rw [hW.1]
  refine step_append_lies _ hgd s x 22 ho (B + 1) 33 i0 _ 2 16 Try.underlying22 hi hz0 hz1 hz2 rfl (by omega) v n (flat D) hs (by rw [hn]; exact hownW) ⟨w5.heap.size, 0, none⟩ 1 1 [.int .i64 t, .int .i64 c] hx rfl (fun j u hu => (hcell _).trans (news_pair w5 t c j u hu)) (by simp [Value.oneCell']) (by omega) (by unfold maxLen; omega) (by omega) (by omega) _ rfl ?_
  intro g cap w' ho' hg _ _
  obtain ⟨h1, h2⟩ := app_kept hg hb hX hW (fun e => by have := (hown.lt _ e.symm).1; omega) (fun k e => by have := (hown.lt k e).1; omega) hz
  refine h g cap w' ?_ h1 h2 h1.c2 (h1.frozen 2)
  unfold SpOwn; rw [List.length_append, flat_append, ← hn]; exact ho'
theorem St.done2 {w wr : World} {P A : Int} {v v0 : Value} {S S0 : List Spd} (h : St w wr P A v0 S0) (hown : SpOwn wr (w.heap.size + 2) v S) :
    BudCell (((wr.setCell ⟨w.heap.size + 1, 0, none⟩ (.int .i64 P)).setCell ⟨w.heap.size + 1, 1, none⟩ (.int .i64 A)).setCell ⟨w.heap.size + 1, 2, none⟩ v) (w.heap.size + 1) P A v ∧
    SpOwn (((wr.setCell ⟨w.heap.size + 1, 0, none⟩ (.int .i64 P)).setCell ⟨w.heap.size + 1, 1, none⟩ (.int .i64 A)).setCell ⟨w.heap.size + 1, 2, none⟩ v) w.heap.size v S ∧
    Below w.heap.size w (((wr.setCell ⟨w.heap.size + 1, 0, none⟩ (.int .i64 P)).setCell ⟨w.heap.size + 1, 1, none⟩ (.int .i64 A)).setCell ⟨w.heap.size + 1, 2, none⟩ v) :=
  ⟨((h.res.set0 P).set1 A).set2 v, (((hown.set_ _ _ (by simp)).set_ _ _ (by simp)).set_ _ _ (by simp)).mono (by omega),
    below_set (below_set (below_set h.below _ _ (by simp)) _ _ (by simp)) _ _ (by simp)⟩

set_option maxRecDepth 100000 in
set_option maxHeartbeats 4000000 in
theorem refClean_any (P A : Int) (B : Option Addr) (S : List Spd) (c : Nat) (t : Int) (w : World) (hS : SpAt w B S) (hA : ∀ a, B = some a → a.spot = none ∨ S.length = 0) (hN : B = none → S.length = 0 ∧ c = 0) (hl : S.length ≤ 100000) :
    Calls Try.prog 42 #[.agg #[.int .i64 P, .int .i64 A, .slice B S.length c], .int .i64 t] w (SpendP w P A (clS P A S t) (clE P A S t)) := by
  have HS := Lib.hid hS
  clear hS
  go_enter Try.func42, Try.ntmps42
  go_wp2_with fail
  refine (copy_any P A B S c _ ((HS.out.alloc _).alloc _) hA hN hl).mono ?_
  rintro e w1 ⟨v, rfl, hown, hb⟩
  obtain ⟨C, c', rfl, -, -, -⟩ := hown.at_
  obtain ⟨⟨hX, hY⟩, -, hSt⟩ := St.start hb hown
  have x0 := hX.c0
  have x1 := hX.c1
  have f0 := hX.frozen 0
  have f1 := hX.frozen 1
  have f2 := hX.frozen 2
  have x2 := hX.c2
  clear hX hY hb hown hA hN HS
  go_wp2_with fail
  clear x0 x1 x2 f0 f1 f2
  obtain ⟨C', c'', ec, hC, -, -⟩ := hSt.own.at_
  injection ec with ec1 ec2 ec3
  subst ec1; subst ec3
  refine ret_below (refCheck_any P A C S c' _ hC hl) fun w3 hb3 => ?_
  have hSt3 := hSt.later hb3
  clear hSt hb3 hC
  have x0 := hSt3.box.c0
  have x1 := hSt3.box.c1
  have x2 := hSt3.box.c2
  have y0 := hSt3.res.c0
  have y1 := hSt3.res.c1
  have y2 := hSt3.res.c2
  have f0 := hSt3.res.frozen 0
  have f1 := hSt3.res.frozen 1
  have f2 := hSt3.res.frozen 2
  have hs3 := hSt3.size
  have HST := Lib.hid hSt3
  clear hSt3
  by_cases hok : BudOK P A S
  case neg =>
    have HV := Lib.hid (clS_err (clE_bad (t := t) hok) (by omega))
    rw [← budE_bad hok]
    clear hok
    go_wp2_with fail
    obtain ⟨d1, d2⟩ := HST.out.done
    exact bodyPost_ret (results_bud2 rfl _ _ (w.heap.size + 1) rfl d1) rfl (SpendP.mk HV.out d2)
  case pos =>
  have HOK := Lib.hid hok
  rw [budE_ok hok]
  clear hok
  by_cases g0 : t < 0
  · have HV := Lib.hid (clS_err (clE_time (t := t) HOK.out (fun h => by omega)) (by omega))
    go_wp2_with fail
    obtain ⟨d1, d2⟩ := HST.out.done
    exact bodyPost_ret (results_bud2 rfl _ _ (w.heap.size + 1) rfl d1) rfl (SpendP.mk HV.out d2)
  by_cases g1 : 1099511627776 < t
  · have HV := Lib.hid (clS_err (clE_time (t := t) HOK.out (fun h => by omega)) (by omega))
    go_wp2_with fail
    obtain ⟨d1, d2⟩ := HST.out.done
    exact bodyPost_ret (results_bud2 rfl _ _ (w.heap.size + 1) rfl d1) rfl (SpendP.mk HV.out d2)
  have HT := Lib.hid (show 0 ≤ t ∧ t ≤ 1099511627776 by omega)
  have HV := Lib.hid (clS_ok (clE_ok HOK.out HT.out))
  have p1 := HOK.out.1.1
  have p2 := HOK.out.1.2.1
  go_wp2_with fail
  refine gen_world fun w4 hw4 => ?_
  have hb4 : Below w3.heap.size w3 w4 := by rw [hw4]; exact below_alloc _ _
  have hO4 : BudCell w4 w3.heap.size P A (.slice none 0 0) := by rw [hw4]; exact BudCell.new _ _ _ rfl
  have hz4 : w3.heap.size + 1 ≤ w4.heap.size := by rw [hw4]; simp
  clear hw4 x0 x1 x2 y0 y1 y2 f0 f1 f2 g0 g1
  have HB := Lib.hid (RowOK.times HOK.out.2.1)
  obtain ⟨m1, m2⟩ := HT.out
  have q2 : t.tdiv P = t / P := Int.tdiv_eq_ediv_of_nonneg m1
  have z1 : ¬ P = 0 := by omega
  have z2 : (P == 0) = false := by simp; omega
  have b3 := Int.ediv_nonneg m1 (show 0 ≤ P by omega)
  have b4 := Int.ediv_le_self P m1
  have b5 : t / P * P ≤ t := Int.ediv_mul_le t (by omega)
  have b6 : 0 ≤ t / P * P := Int.mul_nonneg b3 (by omega)
  have v2 : IntKind.i64.wrap (t / P) = t / P := IntWalk.i64_in _ (by omega)
  have v3 : IntKind.i64.wrap (t / P * P) = t / P * P := IntWalk.i64_in _ (by omega)
  go_loopw [7] (fun i wr => ∃ (k : Nat) (v : Value), k ≤ S.length ∧ i = .int .i64 k ∧ BudCell wr w3.heap.size P A v ∧ SpOwn wr (w3.heap.size + 1) v (keepN P t S k) ∧ Below w3.heap.size w3 wr) (fun i _ => S.length - (intOf i).toNat)
  case atStart => exact ⟨0, .slice none 0 0, Nat.zero_le _, rfl, hO4, SpOwn.nil _ _, hb4⟩
  case round =>
    obtain ⟨k, v, hk, rfl, hO, hown, hbr⟩ := hrel
    clear hO4 hb4
    have hStr := HST.out.later hbr
    have x0 := hStr.box.c0
    have x2 := hStr.box.c2
    have HSR := Lib.hid hStr
    have hzr : w3.heap.size < wr.heap.size := blk_lt hO
    have hs1 := hStr.size
    clear hStr
    by_cases hlt : k < S.length
    · obtain ⟨C2, c2, ec, hC, -, -⟩ := HSR.out.own.at_
      injection ec with ec1 ec2 ec3
      subst ec1; subst ec3
      obtain ⟨b, off, rfl, hbl, e0, e1⟩ := hC k hlt
      clear hC
      have HO := Lib.hid hO
      have HW := Lib.hid hown
      clear hO hown
      go_wp2_with fail
      go_quiet (fail)
      by_cases hkp : t / P * P ≤ tS S k
      · have HK := Lib.hid (keepN_yes hlt hkp)
        have hKL := keepN_len P t S k
        obtain ⟨n, hn⟩ : ∃ n, n = (keepN P t S k).length := ⟨_, rfl⟩
        obtain ⟨V, cv, ev, -, -, -⟩ := HW.out.at_
        rw [← hn] at ev hKL
        subst ev
        have HN := Lib.hid hn
        clear hn
        go_wp2_with fail
        refine gen_world fun w5 hw5 => ?_
        have hO5 : BudCell w5 w3.heap.size P A (.slice V n cv) := by rw [hw5]; exact HO.out
        have HW5 := Lib.hid (show SpOwn w5 (w3.heap.size + 1) (.slice V n cv) (keepN P t S k) by rw [hw5]; exact HW.out)
        have o2 := hO5.c2
        have X2 : w5.cell? ⟨w.heap.size, 2, none⟩ = some (.slice (some ⟨b, off, none⟩) S.length c') := by rw [hw5]; exact x2
        have E0 : w5.cell? ⟨b, off + k * 2, none⟩ = some (.int .i64 (tS S k)) := by rw [hw5]; exact e0
        have E1 : w5.cell? ⟨b, off + k * 2 + 1, none⟩ = some (.int .i64 (cS S k)) := by rw [hw5]; exact e1
        have HO5 := Lib.hid hO5
        have hb5 : Below w3.heap.size w3 w5 := by rw [hw5]; exact below_drewN hbr _
        have hz5 : w3.heap.size < w5.heap.size := blk_lt hO5
        have hbl5 : b < w5.heap.size := by rw [hw5]; exact hbl
        clear hw5 x0 x2 e0 e1 HO HW hO5
        have hs5 : w.heap.size < w5.heap.size := by omega
        go_region_law (go_loud (refine step_app_out _ rfl (.tmp 48) (.tmp 54) rfl w3 w5 w3.heap.size w3.heap.size P A (tS S k) (cS S k) (.slice V n cv) n (keepN P t S k) (by simp [Act.eval]) (by simp [Act.eval]) ⟨rfl, rfl, rfl, rfl⟩ HN.out (by omega) HW5.out hb5 HO5.out (Nat.le_refl _) hz5 ?_; intro g6 c6 w6 hown6 hX6 hB6 u2 u3))
        all_goals
          go_wp2
          go_roundw
          case rel =>
            refine ⟨k + 1, .slice (some ⟨_, 0, none⟩) (n + 1) _, by omega, by go_num, hX6.set2 _, ?_, below_set hB6 _ _ (by simp)⟩
            refine SpOwn.set_ ?_ _ _ (by simp)
            rw [HK.out]; exact hown6
          case measure => simp [intOf]; omega
      · have HK := Lib.hid (keepN_no hlt hkp)
        have HO6 := Lib.hid HO.out
        go_wp2_with fail
        go_roundw
        case rel => exact ⟨k + 1, v, by omega, by go_num, HO6.out, by rw [HK.out]; exact HW.out, below_drewN hbr _⟩
        case measure => simp [intOf]; omega
    · have hke : k = S.length := by omega
      have o0 := hO.c0
      have o1 := hO.c1
      have o2 := hO.c2
      have y0 := HSR.out.res.c0
      have y1 := HSR.out.res.c1
      have y2 := HSR.out.res.c2
      have f0 := HSR.out.res.frozen 0
      have f1 := HSR.out.res.frozen 1
      have f2 := HSR.out.res.frozen 2
      have HD := Lib.hid (HSR.out.done2 (hown.mono (show w.heap.size + 2 ≤ w3.heap.size + 1 by omega)))
      obtain ⟨V, cv, ev, -, -, -⟩ := hown.at_
      obtain ⟨n, hn⟩ : ∃ n, n = (keepN P t S k).length := ⟨_, rfl⟩
      rw [← hn] at ev
      subst ev
      have HKE := Lib.hid hke
      clear hO hown hn hke
      go_wp2_with fail
      obtain ⟨d1, d2⟩ := HD.out
      rw [HKE.out, keepN_end] at d2
      exact bodyPost_ret (results_bud2 rfl _ _ (w.heap.size + 1) rfl d1) rfl (SpendP.mk HV.out d2)
end Go.Proofs.Ytmnkgfimdlhhiaa
namespace Go.Proofs.Ytmnkgfimdlhhiaa
open Go.RowKit

set_option maxRecDepth 100000 in
set_option maxHeartbeats 1000000 in
theorem refSame_true (P A : Int) (A1 A2 : Option Addr) (S : List Spd) (c1 c2 : Nat) (w : World) (h1 : SpAt w A1 S) (h2 : SpAt w A2 S) (hl : S.length ≤ 200000) :
    Calls Try.prog 33 #[.agg #[.int .i64 P, .int .i64 A, .slice A1 S.length c1], .agg #[.int .i64 P, .int .i64 A, .slice A2 S.length c2]] w (RetB (.bool true) w) := by
  have H1 := Lib.hid h1
  have H2 := Lib.hid h2
  clear h1 h2
  have n1 : (P != P) = false := by simp
  have n2 : (A != A) = false := by simp
  have n3 : ((S.length : Int) != (S.length : Int)) = false := by simp
  go_enter Try.func33, Try.ntmps33
  go_wp2_with fail
  refine gen_world fun w1 hw1 => ?_
  have hb : Below w.heap.size w w1 := by rw [hw1]; exact (below_alloc _ _).alloc (by simp) _
  have hX : BudCell w1 w.heap.size P A (.slice A1 S.length c1) := by rw [hw1]; exact (BudCell.new _ _ _ rfl).alloc _
  have hY : BudCell w1 (w.heap.size + 1) P A (.slice A2 S.length c2) := by rw [hw1]; exact BudCell.new _ _ _ (by simp)
  have G1 := Lib.hid (H1.out.below hb)
  have G2 := Lib.hid (H2.out.below hb)
  have HX := Lib.hid hX
  have HY := Lib.hid hY
  clear hw1 hX hY H1 H2
  go_loopw [5] (fun i wr => ∃ (k : Nat), k ≤ S.length ∧ i = .int .i64 k ∧ Below w1.heap.size w1 wr) (fun i _ => S.length - (intOf i).toNat)
  case atStart => exact ⟨0, Nat.zero_le _, rfl, Below.refl _ _⟩
  case round =>
    obtain ⟨k, hk, rfl, hbr⟩ := hrel
    have x2 := (HX.out.below hbr).c2
    have y2 := (HY.out.below hbr).c2
    by_cases hlt : k < S.length
    · obtain ⟨b, off, rfl, hbl, q1, q2⟩ := G1.out.below hbr k hlt
      obtain ⟨b', off', rfl, hbl', r1, r2⟩ := G2.out.below hbr k hlt
      have n4 : (tS S k != tS S k) = false := by simp
      have n5 : (cS S k != cS S k) = false := by simp
      go_wp2_with fail
      go_quiet (fail)
      go_wp2_with fail
      go_roundw
      case rel => exact ⟨k + 1, by omega, by go_num, below_drewN hbr _⟩
      case measure => simp [intOf]; omega
    · go_wp2_with fail
      go_ret
      exact RetB.bool rfl (hb.trans (hbr.mono hb.size))
set_option maxHeartbeats 1000000 in
theorem same_true (P A E : Int) (A1 A2 : Option Addr) (S : List Spd) (c1 c2 : Nat) (w : World) (h1 : SpAt w A1 S) (h2 : SpAt w A2 S) (hl : S.length ≤ 200000) :
    Calls Try.prog 43 #[.agg #[.int .i64 P, .int .i64 A, .slice A1 S.length c1], .agg #[.int .i64 P, .int .i64 A, .slice A2 S.length c2], .int .i64 E, .int .i64 E] w (RetB (.bool true) w) := by
  have H1 := Lib.hid h1
  have H2 := Lib.hid h2
  have n1 : (E == E) = true := by simp
  clear h1 h2
  go_enter Try.func43, Try.ntmps43
  go_wp2_with fail
  refine ret_below (refSame_true P A A1 A2 S c1 c2 _ ((H1.out.alloc _).alloc _) ((H2.out.alloc _).alloc _) hl) fun w1 hb => ?_
  go_wp2
  go_ret
  exact RetB.bool rfl (((below_alloc _ _).alloc (by simp) _).trans (hb.mono (by simp; omega)))

/-- What a call that returns a budget leaves: the budget's own slice written out. -/
theorem SpendP.open_ {w : World} {P A E : Int} {S : List Spd} {e : Ending} {w' : World} (h : SpendP w P A S E e w') : ∃ C c, e = .returned (.tuple #[.agg #[.int .i64 P, .int .i64 A, .slice C S.length c], .int .i64 E]) ∧ SpAt w' C S ∧ Below w.heap.size w w' := by
  obtain ⟨v, rfl, h1, h2⟩ := h
  obtain ⟨C, c, rfl, h3, -, -⟩ := h1.at_
  exact ⟨C, c, rfl, h3, h2⟩
theorem spS_len (P A : Int) (S : List Spd) (t x : Int) : (spS P A S t x).length ≤ S.length + 1 := by
  unfold spS; split
  · simp
  · omega
theorem clS_len (P A : Int) (S : List Spd) (t : Int) : (clS P A S t).length ≤ S.length := by
  unfold clS; split
  · exact List.length_filter_le _ _
  · omega
set_option maxRecDepth 100000 in
set_option maxHeartbeats 4000000 in
theorem agree_true (P A : Int) (B : Option Addr) (S : List Spd) (c : Nat) (t x : Int) (w : World) (hS : SpAt w B S) (hA : ∀ a, B = some a → a.spot = none ∨ S.length = 0) (hN : B = none → S.length = 0 ∧ c = 0) (hl : S.length ≤ 10000) (ht : t ≤ 2199023255552) :
    Calls Try.prog 13 #[.agg #[.int .i64 P, .int .i64 A, .slice B S.length c], .int .i64 t, .int .i64 x] w (RetB (.bool true) w) := by
  have HS := Lib.hid hS
  have HA := Lib.hid hA
  have HN := Lib.hid hN
  clear hS hA hN
  go_enter Try.func13, Try.ntmps13
  go_wp2_with fail
  have hl1 := spS_len P A S t x
  have hl3 := clS_len P A S t
  generalize hS1 : spS P A S t x = S1 at *
  generalize hE1 : spE P A S t x = E1 at *
  generalize hS3 : clS P A S t = S3 at *
  generalize hE3 : clE P A S t = E3 at *
  have HS1 := Lib.hid hS1
  have HE1 := Lib.hid hE1
  have HS3 := Lib.hid hS3
  have HE3 := Lib.hid hE3
  clear hS1 hE1 hS3 hE3
  refine (spend_any P A B S c t x _ (HS.out.alloc _) HA.out HN.out (by omega) ht).mono ?_
  rw [HS1.out, HE1.out]
  intro e w1 hr
  obtain ⟨C1, c1, rfl, hC1, hb1⟩ := hr.open_
  clear hr
  have hbw1 : Below w.heap.size w w1 := (below_alloc _ _).trans (hb1.mono (by simp))
  have HX1 := Lib.hid ((BudCell.new (w := w) P A (.slice B S.length c) rfl).below hb1)
  have HC11 := Lib.hid hC1
  clear hb1 hC1
  have x10 := HX1.out.c0
  have x11 := HX1.out.c1
  have x12 := HX1.out.c2
  have sx1 := blk_lt HX1.out
  go_wp2_with fail
  clear x10 x11 x12
  refine (refSpend_any P A B S c t x _ ((HS.out.below hbw1).alloc _) HA.out HN.out (by omega) ht).mono ?_
  rw [HS1.out, HE1.out]
  intro e w2 hr
  obtain ⟨C2, c2, rfl, hC2, hb2⟩ := hr.open_
  clear hr
  have hp2 : Below w1.heap.size w1 w2 := (below_alloc _ _).trans (hb2.mono (by simp))
  have hbw2 : Below w.heap.size w w2 := hbw1.trans (hp2.mono hbw1.size)
  have HX2 := Lib.hid (HX1.out.below hp2)
  have HR21 := Lib.hid ((BudCell.new (w := w1) P A (.slice C1 S1.length c1) rfl).below hb2)
  have HC21 := Lib.hid (HC11.out.below hp2)
  have HC22 := Lib.hid hC2
  clear hb2 hC2
  have x20 := HX2.out.c0
  have x21 := HX2.out.c1
  have x22 := HX2.out.c2
  have sx2 := blk_lt HX2.out
  go_wp2_with fail
  clear x20 x21 x22
  refine (clean_any P A B S c t _ ((HS.out.below hbw2).alloc _) HA.out HN.out (by omega)).mono ?_
  rw [HS3.out, HE3.out]
  intro e w3 hr
  obtain ⟨C3, c3, rfl, hC3, hb3⟩ := hr.open_
  clear hr
  have hp3 : Below w2.heap.size w2 w3 := (below_alloc _ _).trans (hb3.mono (by simp))
  have hbw3 : Below w.heap.size w w3 := hbw2.trans (hp3.mono hbw2.size)
  have HX3 := Lib.hid (HX2.out.below hp3)
  have HR31 := Lib.hid (HR21.out.below hp3)
  have HR32 := Lib.hid ((BudCell.new (w := w2) P A (.slice C2 S1.length c2) rfl).below hb3)
  have HC31 := Lib.hid (HC21.out.below hp3)
  have HC32 := Lib.hid (HC22.out.below hp3)
  have HC33 := Lib.hid hC3
  clear hb3 hC3
  have x30 := HX3.out.c0
  have x31 := HX3.out.c1
  have x32 := HX3.out.c2
  have sx3 := blk_lt HX3.out
  go_wp2_with fail
  clear x30 x31 x32
  refine (refClean_any P A B S c t _ ((HS.out.below hbw3).alloc _) HA.out HN.out (by omega)).mono ?_
  rw [HS3.out, HE3.out]
  intro e w4 hr
  obtain ⟨C4, c4, rfl, hC4, hb4⟩ := hr.open_
  clear hr
  have hp4 : Below w3.heap.size w3 w4 := (below_alloc _ _).trans (hb4.mono (by simp))
  have hbw4 : Below w.heap.size w w4 := hbw3.trans (hp4.mono hbw3.size)
  have HX4 := Lib.hid (HX3.out.below hp4)
  have HR41 := Lib.hid (HR31.out.below hp4)
  have HR42 := Lib.hid (HR32.out.below hp4)
  have HR43 := Lib.hid ((BudCell.new (w := w3) P A (.slice C3 S3.length c3) rfl).below hb4)
  have HC41 := Lib.hid (HC31.out.below hp4)
  have HC42 := Lib.hid (HC32.out.below hp4)
  have HC43 := Lib.hid (HC33.out.below hp4)
  have HC44 := Lib.hid hC4
  clear hb4 hC4
  have x40 := HX4.out.c0
  have x41 := HX4.out.c1
  have x42 := HX4.out.c2
  have sx4 := blk_lt HX4.out
  go_wp2_with fail
  refine gen_world fun w5 hw5 => ?_
  have hp5 : Below w4.heap.size w4 w5 := by rw [hw5]; exact below_alloc _ _
  have hR4 : BudCell w5 w4.heap.size P A (.slice C4 S3.length c4) := by rw [hw5]; exact BudCell.new _ _ _ rfl
  have hbw5 : Below w.heap.size w w5 := hbw4.trans (hp5.mono hbw4.size)
  clear hw5 x40 x41 x42
  have HX5 := Lib.hid (HX4.out.below hp5)
  have HS5 := Lib.hid (HS.out.below hbw5)
  have hR1 := HR41.out.below hp5
  have hR2 := HR42.out.below hp5
  have hR3 := HR43.out.below hp5
  have r10 := hR1.c0
  have r11 := hR1.c1
  have r12 := hR1.c2
  have sr1 := blk_lt hR1
  have HC51 := Lib.hid (HC41.out.below hp5)
  have r20 := hR2.c0
  have r21 := hR2.c1
  have r22 := hR2.c2
  have sr2 := blk_lt hR2
  have HC52 := Lib.hid (HC42.out.below hp5)
  have r30 := hR3.c0
  have r31 := hR3.c1
  have r32 := hR3.c2
  have sr3 := blk_lt hR3
  have HC53 := Lib.hid (HC43.out.below hp5)
  have r40 := hR4.c0
  have r41 := hR4.c1
  have r42 := hR4.c2
  have sr4 := blk_lt hR4
  have HC54 := Lib.hid (HC44.out.below hp5)
  have x50 := HX5.out.c0
  have x51 := HX5.out.c1
  have x52 := HX5.out.c2
  have sx5 := blk_lt HX5.out
  clear hR1 hR2 hR3 hR4 HX1 HX2 HX3 HX4 HR21 HR31 HR32 HR41 HR42 HR43 hbw1 hbw2 hbw3 hbw4 hp2 hp3 hp4 hp5 sx1 sx2 sx3 sx4
  have n1 : (budE P A S != budE P A S) = false := by simp
  refine wp_region_grew (by kernel_rfl) (by kernel_rfl) ?_
  repeat (go_big_quiet_step ((first
    | (go_at_call 43; exact grew_of (same_true _ _ _ _ _ _ _ _ _ (by first | exact HC51.out.below (grewW.below _ _) | exact HC53.out.below (grewW.below _ _)) (by first | exact HC52.out.below (grewW.below _ _) | exact HC54.out.below (grewW.below _ _)) (by omega)))
    | (go_at_call 21; exact grew_of (check_any P A B S c _ (HS5.out.below (grewW.below _ _)) (by omega)))
    | (go_at_call 44; exact grew_of (refCheck_any P A B S c _ (HS5.out.below (grewW.below _ _)) (by omega))))))
  refine wpQuiet_nil ?_
  intro w6 hb6
  clear r10 r11 r12 r20 r21 r22 r30 r31 r32 r40 r41 r42 sr1 sr2 sr3 sr4 x50 x51 x52 sx5 n1
  have HX6 := Lib.hid (HX5.out.below hb6)
  have HS6 := Lib.hid (HS5.out.below hb6)
  have hbw6 : Below w.heap.size w w6 := hbw5.trans (hb6.mono hbw5.size)
  have x60 := HX6.out.c0
  have x61 := HX6.out.c1
  have x62 := HX6.out.c2
  have sx6 := blk_lt HX6.out
  have n2 : (leftV P A S t == leftV P A S t) = true := by simp
  have n3 : (totV S x t == totV S x t) = true := by simp
  by_cases hok : BudOK P A S
  · have HOK := Lib.hid hok
    have HE := Lib.hid (budE_ok hok)
    have HCh := Lib.hid (RowOK.cheap hok.2.1)
    have HTi := Lib.hid (RowOK.times hok.2.1)
    have HPP := Lib.hid (show 1 ≤ P ∧ P ≤ 1099511627776 from ⟨hok.1.1, hok.1.2.1⟩)
    have HAA := Lib.hid (show 0 ≤ A ∧ A ≤ 1073741824 from ⟨hok.1.2.2.1, hok.1.2.2.2.1⟩)
    clear hok
    go_wp2_with fail
    have hchk : ∀ W, Below w6.heap.size w6 W → Calls Try.prog 44 #[.agg #[.int .i64 P, .int .i64 A, .slice B S.length c]] W (RetB (.int .i64 0) W) := fun W hW => by
      have := refCheck_any P A B S c W (HS6.out.below hW) (by omega)
      rw [HE.out] at this; exact this
    have HCK := Lib.hid hchk
    clear hchk
    refine wp_region_grew (by kernel_rfl) (by kernel_rfl) ?_
    repeat (go_big_quiet_step ((first
      | (go_at_call 44; exact grew_of (HCK.out _ (grewW.below _ _)))
      | (go_at_call 20; exact grew_of (left_any P A B S c t _ HPP.out HAA.out (HS6.out.below (grewW.below _ _)) HTi.out HCh.out (by omega) ht))
      | (go_at_call 45; exact grew_of (refLeft_any P A B S c t _ HPP.out HAA.out (HS6.out.below (grewW.below _ _)) HCh.out (by omega) ht))
      | (go_at_call 23; exact grew_of (total_any P A B S c x t _ (HS6.out.below (grewW.below _ _)) HCh.out (by omega)))
      | (go_at_call 46; exact grew_of (refTotal_any P A B S c x t _ (HS6.out.below (grewW.below _ _)) HCh.out (by omega))))))
    refine wpQuiet_nil ?_
    intro w7 hb7
    go_wp2
    go_ret
    exact RetB.bool rfl (hbw6.trans (hb7.mono hbw6.size))
  · have HE := Lib.hid (budE_bad hok)
    clear hok
    go_wp2_with fail
    have hchk : ∀ W, Below w6.heap.size w6 W → Calls Try.prog 44 #[.agg #[.int .i64 P, .int .i64 A, .slice B S.length c]] W (RetB (.int .i64 56) W) := fun W hW => by
      have := refCheck_any P A B S c W (HS6.out.below hW) (by omega)
      rw [← HE.out] at this; exact this
    have HCK := Lib.hid hchk
    clear hchk
    refine wp_region_grew (by kernel_rfl) (by kernel_rfl) ?_
    repeat (go_big_quiet_step ((first
      | (go_at_call 44; exact grew_of (HCK.out _ (grewW.below _ _))))))
    refine wpQuiet_nil ?_
    intro w7 hb7
    go_wp2
    go_ret
    exact RetB.bool rfl (hbw6.trans (hb7.mono hbw6.size))
end Go.Proofs.Ytmnkgfimdlhhiaa
namespace Go.Proofs.Ytmnkgfimdlhhiaa
open Go.RowKit

/-- One of some numbers. -/
def OfP (D : Nat) (L R : List Int) (w : World) (e : Ending) (w' : World) : Prop := ∃ k : Nat, k < L.length ∧ e = .returned (.int .i64 (nth L k)) ∧ DiceAt w' D R.tail ∧ w.grownBy w' (some D)
set_option maxHeartbeats 1000000 in
theorem of_any (D : Nat) (R : List Int) (A : Option Addr) (L : List Int) (c : Nat) (w : World) (h : DiceAt w D R) (hI : IntsAt w A L) (hA : ∀ b off, A = some ⟨b, off, none⟩ → b ≠ D) (h0 : 0 < L.length) (hl : L.length ≤ 1000) :
    Calls Try.prog 17 #[.pointer (some ⟨D, 0, none⟩), .slice A L.length c] w (OfP D L R w) := by
  have HI := Lib.hid hI
  have HA := Lib.hid hA
  have HD := Lib.hid h
  clear hI hA h
  go_enter Try.func17, Try.ntmps17
  go_wp2_with fail
  refine (next_any D R L.length _ HD.out (by omega)).mono ?_
  rintro e w1 ⟨rfl, hD1, hg⟩
  obtain ⟨m1, m2⟩ := nextV_range R L.length (by omega)
  generalize nextV R L.length = q at *
  obtain ⟨k, rfl⟩ := Int.eq_ofNat_of_zero_le m1
  have hk : k < L.length := by omega
  obtain ⟨b, off, rfl, hb, hc⟩ := (HI.out.grown hg HA.out) k hk
  have HR := Lib.hid (show OfP D L R w (.returned (.int .i64 (nth L k))) w1 from ⟨k, hk, rfl, hD1, hg⟩)
  clear hD1 hg m1
  go_wp2_with fail
  go_ret
  exact HR.out

/-! ### Adding a spend -/
/-- Rows up to now are good, none is later than the time, no period is overspent. -/
structure Made (P A : Int) (S : List Spd) (time : Int) : Prop where
  rows : ∀ k, k < S.length → RowOK S k
  last : ∀ k, k < S.length → tS S k ≤ time
  fits : ∀ k, k < S.length → used P S (tS S k) ≤ A
theorem Made.nil (P A : Int) : Made P A [] 0 := ⟨fun k hk => absurd hk (by simp), fun k hk => absurd hk (by simp), fun k hk => absurd hk (by simp)⟩
theorem Made.later {P A : Int} {S : List Spd} {t t' : Int} (h : Made P A S t) (ht : t ≤ t') : Made P A S t' := ⟨h.rows, fun k hk => by have := h.last k hk; omega, h.fits⟩
theorem getD_old {S : List Spd} {y : Spd} {k : Nat} (hk : k < S.length) : (S ++ [y]).getD k (0, 0) = S.getD k (0, 0) := by
  simp [List.getD_eq_getElem?_getD, List.getElem?_append_left hk]
theorem getD_new {S : List Spd} {y : Spd} : (S ++ [y]).getD S.length (0, 0) = y := by
  simp [List.getD_eq_getElem?_getD]
theorem sumK_old {T : Spd → Bool} {S : List Spd} {y : Spd} : ∀ k, k ≤ S.length → sumK T (S ++ [y]) k = sumK T S k
  | 0, _ => rfl
  | k + 1, hk => by rw [sumK_succ, sumK_succ, sumK_old k (by omega), getD_old (by omega)]
theorem sumT_snoc (T : Spd → Bool) (S : List Spd) (y : Spd) : sumT T (S ++ [y]) = sumT T S + addT T y := by
  unfold sumT
  rw [List.length_append, List.length_singleton, sumK_succ, sumK_old _ (Nat.le_refl _), getD_new]
theorem used_same {P t t' : Int} (S : List Spd) (h : t / P = t' / P) : used P S t = used P S t' := by
  unfold used; congr 1; funext x; unfold perT; rw [h]
theorem Made.snoc {P A : Int} {S : List Spd} {t c : Int} (h : Made P A S t) (ht : 0 ≤ t ∧ t ≤ 1099511627776) (hc : 1 ≤ c ∧ c ≤ 1073741824) (hu : used P S t + c ≤ A) : Made P A (S ++ [(t, c)]) t := by
  have key : ∀ k, k < (S ++ [((t, c) : Spd)]).length → k < S.length ∨ k = S.length := fun k hk => by simp at hk; omega
  refine ⟨fun k hk => ?_, fun k hk => ?_, fun k hk => ?_⟩
  · rcases key k hk with h1 | h1
    · have hr := h.rows k h1
      unfold RowOK tS cS at hr ⊢
      rw [getD_old h1]
      refine ⟨hr.1, hr.2.1, fun h0 => ?_, hr.2.2.2.1, hr.2.2.2.2⟩
      rw [getD_old (show k - 1 < S.length by omega)]; exact hr.2.2.1 h0
    · subst h1
      unfold RowOK tS cS
      rw [getD_new]
      refine ⟨ht.1, ht.2, fun h0 => ?_, hc.1, hc.2⟩
      rw [getD_old (show S.length - 1 < S.length by omega)]; exact h.last _ (by omega)
  · rcases key k hk with h1 | h1
    · unfold tS; rw [getD_old h1]; exact h.last k h1
    · subst h1; unfold tS; rw [getD_new]; exact Int.le_refl _
  · have hsum : ∀ t', used P (S ++ [((t, c) : Spd)]) t' = used P S t' + addT (perT P t') (t, c) := fun t' => sumT_snoc _ _ _
    rcases key k hk with h1 | h1
    · have e : tS (S ++ [((t, c) : Spd)]) k = tS S k := by unfold tS; rw [getD_old h1]
      rw [e, hsum]
      by_cases hp : t / P = tS S k / P
      · rw [used_same S hp.symm, addT_yes (by unfold perT; exact decide_eq_true hp)]; exact hu
      · rw [addT_no (by unfold perT; exact decide_eq_false hp), Int.add_zero]; exact h.fits k h1
    · subst h1
      have e : tS (S ++ [((t, c) : Spd)]) S.length = t := by unfold tS; rw [getD_new]
      rw [e, hsum, addT_yes (by unfold perT; exact decide_eq_true rfl)]; exact hu
theorem Made.ok {P A : Int} {S : List Spd} {t : Int} (h : Made P A S t) (hP : 1 ≤ P ∧ P ≤ 1099511627776) (hA : 0 ≤ A ∧ A ≤ 1073741824) (hl : S.length ≤ 256) : BudOK P A S := ⟨⟨hP.1, hP.2, hA.1, hA.2, hl⟩, h.rows, h.fits⟩
end Go.Proofs.Ytmnkgfimdlhhiaa
namespace Go.Proofs.Ytmnkgfimdlhhiaa
open Go.RowKit

theorem BudCell.grown {w w' : World} {x D : Nat} {P A : Int} {v : Value} (h : BudCell w x P A v) (hg : w.grownBy w' (some D)) (hx : x ≠ D) : BudCell w' x P A v :=
  (hg.block x (blk_lt h) (fun e => by injection e with e; exact hx e)).trans h
theorem SpOwn.grown {w w' : World} {base D : Nat} {v : Value} {S : List Spd} (h : SpOwn w base v S) (hg : w.grownBy w' (some D)) (hD : D < base) : SpOwn w' base v S := by
  obtain ⟨h1, h2⟩ := h
  refine ⟨h1, ?_⟩
  rcases h2 with h2 | ⟨g, cap, cur, hv, hgb, hh, r⟩
  · exact .inl h2
  · exact .inr ⟨g, cap, cur, hv, hgb, (hg.block g (blk_lt hh) (fun e => by injection e with e; omega)).trans hh, r⟩
theorem grown_set {w w' : World} {r : Option Nat} (h : w.grownBy w' r) (p : Addr) (u : Value) (hp : w.heap.size ≤ p.block) : w.grownBy (w'.setCell p u) r :=
  ⟨h.os, h.tape, h.output, by simpa [World.setCell] using h.size, fun k hk hne => (Below.heap_setCell w' p u k (by omega)).trans (h.block k hk hne)⟩
/-- A budget made by dice. -/
def BudP (D : Nat) (w : World) (e : Ending) (w' : World) : Prop :=
  ∃ (P A : Int) (S : List Spd) (v : Value) (R' : List Int) (tm : Int), e = .returned (.agg #[.int .i64 P, .int .i64 A, v]) ∧ (1 ≤ P ∧ P ≤ 10) ∧ (0 ≤ A ∧ A ≤ 5) ∧ Made P A S tm ∧ tm ≤ 25 ∧ S.length ≤ 5 ∧ SpOwn w' w.heap.size v S ∧ DiceAt w' D R' ∧ w.grownBy w' (some D)
/-- The loop of Budget, under way. -/
structure BLoop (w : World) (D bb : Nat) (P A : Int) (n : Nat) (tm : Int) (S : List Spd) (v : Value) (R : List Int) (wr : World) : Prop where
  n5 : n ≤ 5
  made : Made P A S tm
  tm0 : 0 ≤ tm
  tm1 : tm + 5 * n ≤ 25
  len : S.length + n ≤ 5
  box : BudCell wr bb P A v
  own : SpOwn wr (bb + 1) v S
  res : BudCell wr w.heap.size 0 0 (.slice none 0 0)
  dice : DiceAt wr D R
  grew : w.grownBy wr (some D)
theorem BLoop.next {w wr w' : World} {D bb : Nat} {P A : Int} {n : Nat} {tm : Int} {S : List Spd} {v : Value} {R : List Int} (h : BLoop w D bb P A (n + 1) tm S v R wr) (hD : D < w.heap.size) (hbb : w.heap.size ≤ bb) {d : Int} (hd : 0 ≤ d ∧ d ≤ 5) {R' : List Int} (hD' : DiceAt w' D R') (hg : wr.grownBy w' (some D)) : BLoop w D bb P A n (tm + d) S v R' w' :=
  ⟨by have := h.n5; omega, h.made.later (by omega), by have := h.tm0; omega, by have := h.tm1; push_cast at this; omega, by have := h.len; omega, h.box.grown hg (by omega), h.own.grown hg (by omega), h.res.grown hg (by omega), hD', grown_trans h.grew hg⟩
theorem BLoop.below {w wr w' : World} {D bb : Nat} {P A : Int} {n : Nat} {tm : Int} {S : List Spd} {v : Value} {R : List Int} (h : BLoop w D bb P A n tm S v R wr) (hb : Below wr.heap.size wr w') : BLoop w D bb P A n tm S v R w' :=
  ⟨h.n5, h.made, h.tm0, h.tm1, h.len, h.box.below hb, h.own.below hb, h.res.below hb, h.dice.below hb, grown_trans h.grew (grown_of_below hb)⟩
theorem BLoop.dice2 {w wr w' : World} {D bb : Nat} {P A : Int} {n : Nat} {tm : Int} {S : List Spd} {v : Value} {R : List Int} (h : BLoop w D bb P A n tm S v R wr) (hD : D < w.heap.size) (hbb : w.heap.size ≤ bb) {R' : List Int} (hD' : DiceAt w' D R') (hg : wr.grownBy w' (some D)) : BLoop w D bb P A n tm S v R' w' :=
  ⟨h.n5, h.made, h.tm0, h.tm1, h.len, h.box.grown hg (by omega), h.own.grown hg (by omega), h.res.grown hg (by omega), hD', grown_trans h.grew hg⟩
/-- What an append in the round leaves. -/
theorem BLoop.app {w wr w' : World} {D bb : Nat} {P A : Int} {n : Nat} {tm c : Int} {S : List Spd} {v v' : Value} {R : List Int} {o : Obj} (h : BLoop w D bb P A n tm S v R wr) (hD : D < w.heap.size) (hbb : w.heap.size < bb) (hlen : S.length + n + 1 ≤ 5) (hc : 1 ≤ c ∧ c ≤ 1073741824) (hu : used P S tm + c ≤ A)
    (hg : (wr.alloc o).grownBy w' v.ownBlock) (hown : SpOwn w' (bb + 1) v' (S ++ [(tm, c)])) :
    BudCell w' bb P A v ∧ BLoop w D bb P A n tm (S ++ [(tm, c)]) v' R (w'.setCell ⟨bb, 2, none⟩ v') := by
  have hbl := blk_lt h.box
  have hob : ∀ k, v.ownBlock = some k → bb + 1 ≤ k := fun k e => (h.own.lt k e).1
  have hk : ∀ k, k ≤ bb → w'.heap[k]? = wr.heap[k]? := fun k hk => (hg.block k (by simp; omega) (fun e => by have := hob k e.symm; omega)).trans (heap_alloc_old wr o (by omega))
  have h1 : BudCell w' bb P A v := (hk _ (Nat.le_refl _)).trans h.box
  have h2 : BudCell w' w.heap.size 0 0 (.slice none 0 0) := (hk _ (by omega)).trans h.res
  have hd : DiceAt w' D R := h.dice.keep fun k hk' => hk k (by omega)
  have hs := hg.size
  simp at hs
  have hgr : w.grownBy w' (some D) := by
    have hg0 := h.grew
    exact ⟨hg.os.trans hg0.os, hg.tape.trans hg0.tape, hg.output.trans hg0.output, by have := hg0.size; omega, fun k hk' hne => (hk k (by omega)).trans (hg0.block k hk' hne)⟩
  have h25 := h.tm1
  have h0 := h.tm0
  refine ⟨h1, h.n5, h.made.snoc ⟨h0, by omega⟩ hc hu, h0, h25, by simp; omega, h1.set2 _, hown.set_ _ _ (by simp), h2.other _ _ (by simp; omega), hd.setCell _ _ (by simp; omega), ?_⟩
  exact ⟨hgr.os, hgr.tape, hgr.output, by simpa [World.setCell] using hgr.size, fun k hk' hne => (Below.heap_setCell w' ⟨bb, 2, none⟩ v' k (by simp; omega)).trans (hgr.block k hk' hne)⟩

set_option maxRecDepth 100000 in
set_option maxHeartbeats 4000000 in
theorem budget_any (D : Nat) (R : List Int) (w : World) (h : DiceAt w D R) :
    Calls Try.prog 16 #[.pointer (some ⟨D, 0, none⟩)] w (BudP D w) := by
  have hDl := h.lt
  have HD := Lib.hid h
  clear h
  go_enter Try.func16, Try.ntmps16
  go_wp2_with fail
  have hof := of_any D R (some ⟨w.heap.size + 1, 0, none⟩) [10, 1, 7] 3 _ ((HD.out.alloc (.cells #[.int .i64 0, .int .i64 0, .slice none 0 0] 24)).alloc (.cells ([10, 1, 7].map (Value.int .i64)).toArray 3))
    (by have := lit_ints (w.alloc (.cells #[.int .i64 0, .int .i64 0, .slice none 0 0] 24)) [10, 1, 7]; simpa using this) (fun b off e => by injection e with e; injection e with e1; omega) (by simp) (by simp)
  refine hof.mono ?_
  clear hof
  rintro e w1 ⟨k, hk, rfl, hD1, hg1⟩
  have hP : 1 ≤ nth [10, 1, 7] k ∧ nth [10, 1, 7] k ≤ 10 := by
    have : k = 0 ∨ k = 1 ∨ k = 2 := by simp at hk; omega
    rcases this with rfl | rfl | rfl <;> simp [nth]
  obtain ⟨P, hPe⟩ : ∃ P, P = nth [10, 1, 7] k := ⟨_, rfl⟩
  rw [← hPe] at hP ⊢
  have HG1 := Lib.hid (grown_trans (grown_of_below (r := some D) ((below_alloc w _).alloc (by simp) _)) hg1)
  have hres1 : BudCell w1 w.heap.size 0 0 (.slice none 0 0) := ((BudCell.new (w := w) 0 0 (.slice none 0 0) rfl).alloc _).grown hg1 (by omega)
  have HR1 := Lib.hid hres1
  clear hPe hg1 hres1 hk
  generalize R.tail = R1 at *
  go_wp2_with fail
  refine (next_any D R1 6 _ hD1 (by omega)).mono ?_
  rintro e w2 ⟨rfl, hD2, hg2⟩
  obtain ⟨m1, m2⟩ := nextV_range R1 6 (by omega)
  generalize nextV R1 6 = A at *
  have HG2 := Lib.hid (grown_trans HG1.out hg2)
  have HR2 := Lib.hid (HR1.out.grown hg2 (by omega))
  generalize R1.tail = R2 at *
  clear HG1 HR1 hD1 hg2
  go_wp2_with fail
  refine (next_any D R2 6 _ (by first | exact hD2.alloc _ | exact (((hD2.alloc _).setCell _ _ (by simp; omega)).setCell _ _ (by simp; omega)).setCell _ _ (by simp; omega)) (by omega)).mono ?_
  rintro e w4 ⟨rfl, hD4, hg4⟩
  have hs2 := hD2.lt
  have hgz := HG2.out.size
  have hbox4 : BudCell w4 w2.heap.size P A (.slice none 0 0) := by
    refine BudCell.grown ?_ hg4 (by omega)
    first | exact BudCell.new _ _ _ rfl | exact (((BudCell.new (w := w2) 0 0 (.slice none 0 0) rfl).set0 P).set1 A).set2 _
  have hres4 : BudCell w4 w.heap.size 0 0 (.slice none 0 0) := by
    refine BudCell.grown ?_ hg4 (by omega)
    first | exact HR2.out.alloc _ | exact (((HR2.out.alloc _).other _ _ (by have := blk_lt HR2.out; simp; omega)).other _ _ (by have := blk_lt HR2.out; simp; omega)).other _ _ (by have := blk_lt HR2.out; simp; omega)
  have hgr4 : w.grownBy w4 (some D) := by
    refine grown_trans HG2.out (grown_trans (grown_of_below ?_) hg4)
    first | exact below_alloc _ _ | exact below_set (below_set (below_set (below_alloc _ _) _ _ (by simp)) _ _ (by simp)) _ _ (by simp)
  obtain ⟨n1, n2⟩ := nextV_range R2 6 (by omega)
  generalize nextV R2 6 = nn at *
  obtain ⟨n, rfl⟩ := Int.eq_ofNat_of_zero_le n1
  have hwlt := blk_lt HR2.out
  have HB := Lib.hid (show BLoop w D w2.heap.size P A n 0 [] (.slice none 0 0) R2.tail w4 from ⟨by omega, Made.nil P A, by omega, by omega, by simp; omega, hbox4, SpOwn.nil _ _, hres4, hD4, hgr4⟩)
  obtain ⟨bb, hbb⟩ : ∃ bb, bb = w2.heap.size := ⟨_, rfl⟩
  rw [← hbb] at HB hwlt ⊢
  generalize R2.tail = R3 at *
  clear hbb hbox4 hres4 hgr4 hD4 hg4 hD2 HG2 HR2 n1 n2 hs2 hgz
  obtain ⟨p1, p2⟩ := hP
  have z1 : ¬ P = 0 := by omega
  have z2 : (P == 0) = false := by simp; omega
  go_wp2_with fail
  go_loopw [5, 4] (fun n t wr => ∃ (n' : Nat) (tm : Int) (S : List Spd) (v : Value) (R' : List Int), n = .int .i64 n' ∧ t = .int .i64 tm ∧ BLoop w D bb P A n' tm S v R' wr) (fun n _ _ => (intOf n).toNat)
  case atStart => exact ⟨n, 0, [], _, R3, rfl, rfl, HB.out⟩
  case round =>
    clear HB
    obtain ⟨n, tm, S, v, R', rfl, rfl, hB⟩ := hrel
    have hn5 := hB.n5
    have ht0 := hB.tm0
    have ht1 := hB.tm1
    have hln := hB.len
    obtain ⟨C, c, rfl, -, -, -⟩ := hB.own.at_
    rcases n with _ | n
    · have x0 := hB.box.c0
      have x1 := hB.box.c1
      have x2 := hB.box.c2
      have y0 := hB.res.c0
      have y1 := hB.res.c1
      have y2 := hB.res.c2
      have f0 := hB.res.frozen 0
      have f1 := hB.res.frozen 1
      have f2 := hB.res.frozen 2
      have HB := Lib.hid hB
      clear hB
      go_wp2_with fail
      refine bodyPost_ret (results_bud rfl _ _ w.heap.size rfl (P := P) (A := A) (v := .slice C S.length c) (((HB.out.res.set0 P).set1 A).set2 _)) rfl ⟨P, A, S, _, R', tm, rfl, ⟨p1, p2⟩, by omega, HB.out.made, by omega, by omega, ?_, ?_, ?_⟩
      · exact ((((HB.out.own.set_ _ _ (by simp; omega)).set_ _ _ (by simp; omega)).set_ _ _ (by simp; omega))).mono (by omega)
      · exact ((HB.out.dice.setCell _ _ (by simp; omega)).setCell _ _ (by simp; omega)).setCell _ _ (by simp; omega)
      · exact grown_set (grown_set (grown_set HB.out.grew _ _ (by simp)) _ _ (by simp)) _ _ (by simp)
    · have HB := Lib.hid hB
      have hdc := hB.dice
      clear hB
      go_wp2_with fail
      refine (next_any D R' 6 _ hdc (by omega)).mono ?_
      rintro e w5 ⟨rfl, hD5, hg5⟩
      obtain ⟨m1, m2⟩ := nextV_range R' 6 (by omega)
      generalize nextV R' 6 = d at *
      have hB5 := HB.out.next hDl (by omega) (d := d) ⟨m1, by omega⟩ hD5 hg5
      generalize R'.tail = R5 at *
      obtain ⟨tn, htn⟩ : ∃ tn, tn = tm + d := ⟨_, rfl⟩
      have ht0' : 0 ≤ tn := by omega
      have ht1' : tn ≤ 25 := by omega
      rw [← htn] at hB5
      have hwr : IntKind.i64.wrap (tm + d) = tn := by rw [htn]; exact IntWalk.i64_in _ (by omega)
      have HB5 := Lib.hid hB5
      have x2 := hB5.box.c2
      have hbx := blk_lt hB5.box
      obtain ⟨Cx, cx, ec, hC5, -, -⟩ := hB5.own.at_
      injection ec with ec1 ec2 ec3
      subst ec1; subst ec3
      have HC5 := Lib.hid hC5
      have hrg : ∀ k, k ≤ S.length → 0 ≤ sumK (perT P tn) S k ∧ sumK (perT P tn) S k ≤ 1073741824 * k := fun k hk => sumK_range2 (perT P tn) k (fun j hj => by have := (hB5.made.rows j (by omega)).2.2.2; omega)
      have HRG := Lib.hid hrg
      clear hrg
      have HTI := Lib.hid (RowOK.times hB5.made.rows)
      have HCH := Lib.hid (RowOK.cheap hB5.made.rows)
      clear hB5 HB hdc hD5 hg5 hC5 htn
      go_wp2_with fail
      clear hwr
      go_loopw [29, 6] (fun i s wr => ∃ k : Nat, k ≤ S.length ∧ i = .int .i64 k ∧ s = .int .i64 (sumK (perT P tn) S k) ∧ Below w5.heap.size w5 wr) (fun i _ _ => S.length - (intOf i).toNat)
      case atStart => exact ⟨0, Nat.zero_le _, rfl, rfl, Below.refl _ _⟩
      case round =>
        obtain ⟨k, hk, rfl, rfl, hbr⟩ := hrel
        have hr := HRG.out k hk
        have x0 := (HB5.out.box.below hbr).c0
        by_cases hlt : k < S.length
        · obtain ⟨b, off, rfl, hbl, e0, e1⟩ := HC5.out.below hbr k hlt
          have hti := HTI.out k hlt
          have hch := HCH.out k hlt
          obtain ⟨u1, u2⟩ := hti
          obtain ⟨u3, u4⟩ := hch
          have q1 : (tS S k).tdiv P = tS S k / P := Int.tdiv_eq_ediv_of_nonneg u1
          have q2 : tn.tdiv P = tn / P := Int.tdiv_eq_ediv_of_nonneg ht0'
          have c1 := Int.ediv_nonneg u1 (show 0 ≤ P by omega)
          have c2 := Int.ediv_le_self P u1
          have c3 := Int.ediv_nonneg ht0' (show 0 ≤ P by omega)
          have c4 := Int.ediv_le_self P ht0'
          have v1 : IntKind.i64.wrap (tS S k / P) = tS S k / P := IntWalk.i64_in _ (by omega)
          have v2 : IntKind.i64.wrap (tn / P) = tn / P := IntWalk.i64_in _ (by omega)
          have v3 : IntKind.i64.wrap (sumK (perT P tn) S k + cS S k) = sumK (perT P tn) S k + cS S k := IntWalk.i64_in _ (by omega)
          have hbrs := hbr.size
          go_wp2_with fail
          refine gen_world fun w6 hw6 => ?_
          have hb6 : Below wr.heap.size wr w6 := by rw [hw6]; exact below_alloc _ _
          obtain ⟨g0, g1⟩ : w6.cell? ⟨wr.heap.size, 0, none⟩ = some (.int .i64 (tS S k)) ∧ w6.cell? ⟨wr.heap.size, 1, none⟩ = some (.int .i64 (cS S k)) := by rw [hw6]; exact pair_cells _ _ _
          have x06 := (hb6.cell (p := ⟨bb, 0, none⟩) (by simp; omega)).trans x0
          have hb56 : Below w5.heap.size w5 w6 := hbr.trans (hb6.mono hbrs)
          clear hw6 e0 e1 x0
          by_cases hq : tS S k / P = tn / P
          · have HV := Lib.hid (show addT (perT P tn) (S.getD k (0, 0)) = cS S k from addT_yes (by unfold perT; exact decide_eq_true hq))
            have hqb : (tS S k / P == tn / P) = true := by simp [hq]
            clear hq
            go_quiet (fail)
            go_wp2_with fail
            go_roundw
            case rel => exact ⟨k + 1, by omega, by go_num, by rw [sumK_succ, HV.out], below_drewN hb56 _⟩
            case measure => simp [intOf]; omega
          · have HV := Lib.hid (show addT (perT P tn) (S.getD k (0, 0)) = 0 from addT_no (by unfold perT; exact decide_eq_false hq))
            have hqb : (tS S k / P == tn / P) = false := by simp [hq]
            clear hq
            go_quiet (fail)
            go_wp2_with fail
            go_roundw
            case rel => exact ⟨k + 1, by omega, by go_num, by rw [sumK_succ, HV.out, Int.add_zero], below_drewN hb56 _⟩
            case measure => simp [intOf]; omega
        · have hke : sumK (perT P tn) S k = used P S tn := by rw [show k = S.length by omega]; rfl
          rw [hke] at hr ⊢
          have hB6 := HB5.out.below hbr
          have hd6 := hB6.dice
          have HB6 := Lib.hid hB6
          clear hB6 hke x0
          go_wp2_with fail
          refine (next_any D R5 2 _ hd6 (by omega)).mono ?_
          rintro e w7 ⟨rfl, hD7, hg7⟩
          obtain ⟨m3, m4⟩ := nextV_range R5 2 (by omega)
          generalize nextV R5 2 = d2 at *
          have hB7 := HB6.out.dice2 hDl (by omega) hD7 hg7
          have x1 := hB7.box.c1
          have HB7 := Lib.hid hB7
          have hln7 := hB7.len
          clear hB7 HB6 hd6 hD7 hg7 HB5
          generalize R5.tail = R7 at *
          obtain ⟨c7, hc7⟩ : ∃ c7, c7 = 1 + d2 := ⟨_, rfl⟩
          have hwc : IntKind.i64.wrap (1 + d2) = c7 := by rw [hc7]; exact IntWalk.i64_in _ (by omega)
          have hc71 : 1 ≤ c7 := by omega
          have hc72 : c7 ≤ 2 := by omega
          clear hc7 m3 m4
          have hrr : used P S tn ≤ 1073741824 * 5 := by omega
          by_cases hu : used P S tn + c7 ≤ A
          · have x2' := HB7.out.box.c2
            have hb7s := blk_lt HB7.out.box
            go_wp2_with (first | (at_builtin; refine app_spends rfl (.tmp 58) (.tmp 62) rfl (base := bb + 1) (S := S) (T := [(tn, c7)]) (v := .slice C S.length c) (b := w7.heap.size) (off := 0) (c := 1) rfl (HB7.out.own.below (below_alloc _ _)) rfl (one_at _ _ _) (by simp; omega) (by simp; omega) ?_; intro v8 w8 hown8 hg8 hb8; obtain ⟨C8, c8, ev, -, -, -⟩ := hown8.at_; rw [show (S ++ [(tn, c7)]).length = S.length + 1 by simp] at ev; subst ev; have hB8 := HB7.out.app hDl (by omega) (by omega) ⟨hc71, by omega⟩ hu hg8 hown8; have z2 := hB8.1.c2; have z3 := hB8.1.frozen 2; have HB8 := Lib.hid hB8.2; clear hB8 hown8 hg8 hb8) | fail)
            go_roundw
            case rel => exact ⟨n, tn, S ++ [(tn, c7)], _, R7, by go_num, rfl, HB8.out⟩
            case measure => simp [intOf]
          · go_wp2_with fail
            go_roundw
            case rel => exact ⟨n, tn, S, _, R7, by go_num, rfl, HB7.out⟩
            case measure => simp [intOf]
end Go.Proofs.Ytmnkgfimdlhhiaa
