/-
  Refresh: Zero of any number of elements, the document's Zero and Checks.
  Refresh: the document's Apply, for any lists.
  Refresh: the document's Sum.
  Shares: a plan of dice that may not be valid.
  Shares: rows of shares in which something is changed.
  Conditions: those that each theorem names.
-/
import Derived.Test.YtlhipgejiacklaaDoorM12
import Derived.BigQuiet
import Derived.Deep.RegionWith
set_option linter.unusedVariables false
set_option linter.unusedSimpArgs false
namespace Go.Proofs.YtlhipgejiacklaaDoor
open Go.RowKit

noncomputable def zrE (p n h : Nat) (k : Int) (ran : List Int) : Int := if k < 0 then 2 else if 2048 < k then 3 else dlE p n h (ofN (List.replicate k.toNat 0)) ran
noncomputable def zrL (p n h : Nat) (k : Int) (ran : List Int) : List ShN := if k < 0 ∨ 2048 < k then [] else dlL p n h (ofN (List.replicate k.toNat 0)) ran
attribute [local go_sem high] run_make_int
set_option maxRecDepth 100000 in
set_option maxHeartbeats 4000000 in
theorem refZero_deal (p n h m : Nat) (P : PlanN p n h) (hm : m ≤ 2048) (B : Option Addr) (cb : Nat) (ran : List Int) (w : World) (hR : IntsAt w B ran) (hok : IOK B cb ran.length) (hl : ran.length ≤ 1048576) :
    Calls Tryd.prog 35 #[planV p n h, .int .i64 (m : Int), .slice B ran.length cb] w (ShErr (shL (dlL p n h (ofN (List.replicate m 0)) ran)) (dlE p n h (ofN (List.replicate m 0)) ran) w) := by
  have HVA := Lib.hid (fun (W : World) (hb : Below w.heap.size w W) => show Calls Tryd.prog 63 #[planV p n h] W (RetB (.bool true) W) from by have := refValid_plan p n h W P.pv; rw [P.pl] at this; exact this)
  have HDL := Lib.hid (fun (W : World) (g : Nat) (hb : Below w.heap.size w W) (hg : NatBlk W g (List.replicate m 0)) => show Calls Tryd.prog 31 #[planV p n h, .slice (some ⟨g, 0, none⟩) m m, .slice B ran.length cb] W (ShErr (shL (dlL p n h (ofN (List.replicate m 0)) ran)) (dlE p n h (ofN (List.replicate m 0)) ran) W) from by
    have := refDealS_any p n h (some ⟨g, 0, none⟩) B m cb (ofN (List.replicate m 0)) ran W P.pv hg.nats.ints (fun k hk => (hR.keep (P := fun _ => True) (fun _ _ _ => .inr trivial) ⟨hb.size, fun b _ hlt => hb.block b hlt⟩) k hk) (by rw [len_ofN, List.length_replicate]; omega) hl hok
    rw [len_ofN, List.length_replicate] at this
    exact this)
  have e1 : decide (2048 < (m : Int)) = false := decide_eq_false (by omega)
  have e2 : decide ((m : Int) < 0) = false := decide_eq_false (by omega)
  have hmk : m ≤ 1099511627776 := by omega
  clear hR P
  go_enter Tryd.func35, Tryd.ntmps35
  go_wp2_with fail
  refine ret_below (HVA.out _ (below_alloc _ _)) fun w2 hb2 => ?_
  have hpc2 := (PlanCell.new (w := w) p n h rfl).below hb2
  have hb2w := below_trans (below_alloc _ _) hb2
  have p0 := hpc2.c0
  have p1 := hpc2.c1
  have p2 := hpc2.c2
  have lp := hpc2.lt
  clear hb2 hpc2
  go_wp2_with fail
  go_region_held3 (fun w' => w'.cell? ⟨w.heap.size, 0, none⟩ = some (.int .i64 (p : Int)) ∧ w'.cell? ⟨w.heap.size, 1, none⟩ = some (.int .i64 (n : Int)) ∧ w'.cell? ⟨w.heap.size, 2, none⟩ = some (.int .i64 (h : Int))) (first | go_keep)
    ((go_at_call 31; refine (HDL.out _ w2.heap.size (below_trans hb2w (bl_drew (bl_alloc _ (bl_refl _)))) (by exact nat_blk0 w2 m)).mono ?_; intro e w3 he; obtain ⟨NA, nc, rfl, hN, hb3⟩ := he; have hb3' : Below (w2.alloc (.cells (Array.replicate m (.int .i64 0)) 3)).heap.size (w2.alloc (.cells (Array.replicate m (.int .i64 0)) 3)) w3 := below_undrew1 hb3; have hb23 := below_trans (below_alloc w2 (.cells (Array.replicate m (.int .i64 0)) 3)) hb3'; have q0 := (hb23.cell (p := ⟨w.heap.size, 0, none⟩) lp).trans p0; have q1 := (hb23.cell (p := ⟨w.heap.size, 1, none⟩) lp).trans p1; have q2 := (hb23.cell (p := ⟨w.heap.size, 2, none⟩) lp).trans p2))
  have hz2 := hb2w.size
  have HX := Lib.hid (hN.mono (Q := fun b => w.heap.size ≤ b) (fun b _ hb => by rw [World.size_drew, size_alloc] at hb; omega))
  have HBB := Lib.hid (below_trans hb2w hb23)
  clear hN hb3 hb3' hb23
  go_wp2_with fail
  go_ret2
  exact ⟨NA, nc, rfl, HX.out, HBB.out⟩

set_option maxRecDepth 100000 in
set_option maxHeartbeats 4000000 in
theorem zero_neg (p n h : Nat) (k : Int) (P : PlanN p n h) (hk : k < 0) (B : Option Addr) (cb rl : Nat) (w : World) (hB : Bases w) :
    Calls Tryd.prog 20 #[planV p n h, .int .i64 k, .slice B rl cb] w (ShErr [] 2 w) := by
  have HVA := Lib.hid (fun (W : World) (hb : Below w.heap.size w W) => show Calls Tryd.prog 49 #[planV p n h] W (RetB (.bool true) W) from by have := valid_plan p n h W (hB.below hb hB.1); rw [P.pl] at this; exact this)
  have e2 : decide (k < 0) = true := decide_eq_true hk
  clear P hB
  go_enter Tryd.func20, Tryd.ntmps20
  go_wp2_with fail
  refine ret_below (HVA.out _ (below_alloc _ _)) fun w2 hb2 => ?_
  have hb2w := below_trans (below_alloc _ _) hb2
  clear hb2
  go_wp2_with fail
  go_ret2
  exact ShErr.nil _ hb2w

set_option maxRecDepth 100000 in
set_option maxHeartbeats 4000000 in
theorem zero_big (p n h : Nat) (k : Int) (P : PlanN p n h) (hk : 2048 < k) (B : Option Addr) (cb rl : Nat) (w : World) (hB : Bases w) :
    Calls Tryd.prog 20 #[planV p n h, .int .i64 k, .slice B rl cb] w (ShErr [] 3 w) := by
  have HVA := Lib.hid (fun (W : World) (hb : Below w.heap.size w W) => show Calls Tryd.prog 49 #[planV p n h] W (RetB (.bool true) W) from by have := valid_plan p n h W (hB.below hb hB.1); rw [P.pl] at this; exact this)
  have e2 : decide (k < 0) = false := decide_eq_false (by omega)
  have e1 : decide (2048 < k) = true := decide_eq_true hk
  clear P hB
  go_enter Tryd.func20, Tryd.ntmps20
  go_wp2_with fail
  refine ret_below (HVA.out _ (below_alloc _ _)) fun w2 hb2 => ?_
  have hb2w := below_trans (below_alloc _ _) hb2
  clear hb2
  go_wp2_with fail
  go_ret2
  exact ShErr.nil _ hb2w

set_option maxRecDepth 100000 in
set_option maxHeartbeats 4000000 in
theorem refZero_neg (p n h : Nat) (k : Int) (P : PlanN p n h) (hk : k < 0) (B : Option Addr) (cb rl : Nat) (w : World) :
    Calls Tryd.prog 35 #[planV p n h, .int .i64 k, .slice B rl cb] w (ShErr [] 2 w) := by
  have HVA := Lib.hid (fun (W : World) (hb : Below w.heap.size w W) => show Calls Tryd.prog 63 #[planV p n h] W (RetB (.bool true) W) from by have := refValid_plan p n h W P.pv; rw [P.pl] at this; exact this)
  have e2 : decide (k < 0) = true := decide_eq_true hk
  clear P
  go_enter Tryd.func35, Tryd.ntmps35
  go_wp2_with fail
  refine ret_below (HVA.out _ (below_alloc _ _)) fun w2 hb2 => ?_
  have hb2w := below_trans (below_alloc _ _) hb2
  clear hb2
  go_wp2_with fail
  go_ret2
  exact ShErr.nil _ hb2w

set_option maxRecDepth 100000 in
set_option maxHeartbeats 4000000 in
theorem refZero_big (p n h : Nat) (k : Int) (P : PlanN p n h) (hk : 2048 < k) (B : Option Addr) (cb rl : Nat) (w : World) :
    Calls Tryd.prog 35 #[planV p n h, .int .i64 k, .slice B rl cb] w (ShErr [] 3 w) := by
  have HVA := Lib.hid (fun (W : World) (hb : Below w.heap.size w W) => show Calls Tryd.prog 63 #[planV p n h] W (RetB (.bool true) W) from by have := refValid_plan p n h W P.pv; rw [P.pl] at this; exact this)
  have e2 : decide (k < 0) = false := decide_eq_false (by omega)
  have e1 : decide (2048 < k) = true := decide_eq_true hk
  clear P
  go_enter Tryd.func35, Tryd.ntmps35
  go_wp2_with fail
  refine ret_below (HVA.out _ (below_alloc _ _)) fun w2 hb2 => ?_
  have hb2w := below_trans (below_alloc _ _) hb2
  clear hb2
  go_wp2_with fail
  go_ret2
  exact ShErr.nil _ hb2w

theorem zero_any (p n h : Nat) (k : Int) (P : PlanN p n h) (B : Option Addr) (cb : Nat) (ran : List Int) (w : World) (hB : Bases w) (hR : IntsAt w B ran) (hok : IOK B cb ran.length) (hl : ran.length ≤ 1048576) :
    Calls Tryd.prog 20 #[planV p n h, .int .i64 k, .slice B ran.length cb] w (ShErr (shL (zrL p n h k ran)) (zrE p n h k ran) w) := by
  by_cases h1 : k < 0
  · have e : zrE p n h k ran = 2 := by unfold zrE; rw [if_pos h1]
    have e2 : zrL p n h k ran = [] := by unfold zrL; rw [if_pos (.inl h1)]
    rw [e, e2]; exact zero_neg p n h k P h1 B cb _ w hB
  · by_cases h2 : 2048 < k
    · have e : zrE p n h k ran = 3 := by unfold zrE; rw [if_neg h1, if_pos h2]
      have e2 : zrL p n h k ran = [] := by unfold zrL; rw [if_pos (.inr h2)]
      rw [e, e2]; exact zero_big p n h k P h2 B cb _ w hB
    · obtain ⟨m, rfl⟩ : ∃ m : Nat, k = m := ⟨k.toNat, by omega⟩
      have e : zrE p n h m ran = dlE p n h (ofN (List.replicate m 0)) ran := by unfold zrE; rw [if_neg h1, if_neg h2]; rfl
      have e2 : zrL p n h m ran = dlL p n h (ofN (List.replicate m 0)) ran := by unfold zrL; rw [if_neg (by omega)]; rfl
      rw [e, e2]; exact zero_deal p n h m P (by omega) B cb ran w hB hR hok hl

theorem refZero_any (p n h : Nat) (k : Int) (P : PlanN p n h) (B : Option Addr) (cb : Nat) (ran : List Int) (w : World) (hR : IntsAt w B ran) (hok : IOK B cb ran.length) (hl : ran.length ≤ 1048576) :
    Calls Tryd.prog 35 #[planV p n h, .int .i64 k, .slice B ran.length cb] w (ShErr (shL (zrL p n h k ran)) (zrE p n h k ran) w) := by
  by_cases h1 : k < 0
  · have e : zrE p n h k ran = 2 := by unfold zrE; rw [if_pos h1]
    have e2 : zrL p n h k ran = [] := by unfold zrL; rw [if_pos (.inl h1)]
    rw [e, e2]; exact refZero_neg p n h k P h1 B cb _ w
  · by_cases h2 : 2048 < k
    · have e : zrE p n h k ran = 3 := by unfold zrE; rw [if_neg h1, if_pos h2]
      have e2 : zrL p n h k ran = [] := by unfold zrL; rw [if_pos (.inr h2)]
      rw [e, e2]; exact refZero_big p n h k P h2 B cb _ w
    · obtain ⟨m, rfl⟩ : ∃ m : Nat, k = m := ⟨k.toNat, by omega⟩
      have e : zrE p n h m ran = dlE p n h (ofN (List.replicate m 0)) ran := by unfold zrE; rw [if_neg h1, if_neg h2]; rfl
      have e2 : zrL p n h m ran = dlL p n h (ofN (List.replicate m 0)) ran := by unfold zrL; rw [if_neg (by omega)]; rfl
      rw [e, e2]; exact refZero_deal p n h m P (by omega) B cb ran w hR hok hl

set_option maxRecDepth 100000 in
set_option maxHeartbeats 4000000 in
theorem refChecks_any {P : Nat → Prop} (p n h : Int) (A : Option Addr) (c : Nat) (S : List Shr) (w : World) (hv : primeV p = validI p) (hSh : ShP P w A c S) (hsh : Short S) (hl : S.length ≤ 100000) :
    Calls Tryd.prog 39 #[planV p n h, .slice A S.length c] w (RetB (.bool (ckB p n h S)) w) := by
  have HF := Lib.hid (fun (W : World) (hb : Below w.heap.size w W) => refFits_any p n h A c S W hv (hSh.below hb) hsh (by omega))
  have HC := Lib.hid (fun (W : World) (hb : Below w.heap.size w W) => refCombine_any p n h A c S W hv (hSh.below hb) hsh (by omega))
  have HS := Lib.hid hSh
  have hbp := below_alloc w (.cells #[.int .i64 p, .int .i64 n, .int .i64 h] 28)
  have HCL := Lib.hid (cmL_lenS (p := p) (n := n) (h := h) hsh)
  clear hSh hsh hv
  by_cases hlen : (S.length : Int) = h
  · have t1 : ((S.length : Int) != h) = false := by simp [hlen]
    have HLEN := Lib.hid hlen
    clear hlen
    cases hft : ftB p n h S with
    | false =>
      have HV := Lib.hid (ckB_ft hft)
      rw [hft] at HF
      clear hft
      go_enter Tryd.func39, Tryd.ntmps39
      go_wp2_with fail
      refine ret_below (HF.out _ hbp) fun w1 hb1 => ?_
      go_wp2_with fail
      go_ret
      exact RetB.bool HV.out (below_trans hbp hb1)
    | true =>
      rw [hft] at HF
      have HFT := Lib.hid hft
      clear hft
      go_enter Tryd.func39, Tryd.ntmps39
      go_wp2_with fail
      refine ret_below (HF.out _ hbp) fun w1 hb1 => ?_
      have hbw1 := below_trans hbp hb1
      have HP := Lib.hid ((PlanCell.new (w := w) p n h rfl).below hb1)
      have p0 := HP.out.c0
      have p1 := HP.out.c1
      have p2 := HP.out.c2
      have lp := HP.out.lt
      clear hb1
      go_wp2_with fail
      go_loopw [24] (fun i wr => ∃ k : Nat, k ≤ S.length ∧ i = .int .i64 k ∧ (∀ j, j < k → hS S j = (j : Int) + 1) ∧ Below w1.heap.size w1 wr) (fun i _ => S.length - (intOf i).toNat)
      case atStart => exact ⟨0, Nat.zero_le _, rfl, fun j hj => absurd hj (by omega), Below.refl _ _⟩
      case round =>
        obtain ⟨k, hk, rfl, hpre, hbr⟩ := hrel
        have HPRE := Lib.hid hpre
        have hbw := below_trans hbw1 hbr
        have hq := HP.out.below hbr
        have q0 := hq.c0
        have q1 := hq.c1
        have q2 := hq.c2
        have lq := hq.lt
        clear hpre p0 p1 p2 hq
        by_cases hlt : k < S.length
        · obtain ⟨b, off, B, c', rfl, hbl, -, x0, x1, -⟩ := (HS.out.below hbw).at_ k hlt
          by_cases hx : hS S k = (k : Int) + 1
          · have HX := Lib.hid hx
            rw [hx] at x0
            have e1 : IntKind.i64.wrap ((k : Int) + 1) = (k : Int) + 1 := IntWalk.i64_in _ (by omega)
            clear hx
            go_wp2_with fail
            go_roundw
            case rel =>
              refine ⟨k + 1, by omega, by go_num, fun j hj => ?_, bl_alloc _ hbr⟩
              rcases Nat.lt_or_ge j k with h | h
              · exact HPRE.out j h
              · rw [show j = k by omega]; exact HX.out
            case measure => simp [intOf]; omega
          · have HV := Lib.hid (ckB_ord (p := p) (n := n) (h := h) (ordB_no hlt hx))
            have e1 : IntKind.i64.wrap ((k : Int) + 1) = (k : Int) + 1 := IntWalk.i64_in _ (by omega)
            have t2 : (hS S k != (k : Int) + 1) = true := by simp [hx]
            generalize hS S k = x at *
            clear hx
            go_wp2_with fail
            go_ret
            exact RetB.bool HV.out (bl_alloc _ hbw)
        · obtain rfl : k = S.length := by omega
          have HORD := Lib.hid (ordB_yes HPRE.out)
          have HZ := Lib.hid (fun e : cmE p n h S = 0 => ckB_all HFT.out HLEN.out HORD.out e)
          have HN := Lib.hid (fun e : ¬ cmE p n h S = 0 => And.intro (cmL_no e) (ckB_err e))
          generalize cmE p n h S = er at *
          generalize cmL p n h S = L at *
          go_wp2_with fail
          refine (HC.out _ hbw).mono ?_
          rintro e w3 ⟨XA, xc, rfl, hX, -, -, hb3⟩
          have hbw3 := below_trans hbw hb3
          have HX := Lib.hid hX
          have hLl := HCL.out
          clear hX hb3 q0 q1 q2
          go_wp2_with fail
          go_loopw [43] (fun i wr => ∃ k : Nat, k ≤ L.length ∧ i = .int .i64 k ∧ (∀ j, j < k → nthN L j = 0) ∧ Below w3.heap.size w3 wr) (fun i _ => L.length - (intOf i).toNat)
          case atStart => exact ⟨0, Nat.zero_le _, rfl, fun j hj => absurd hj (by omega), Below.refl _ _⟩
          case round =>
            obtain ⟨k, hk, rfl, hpre, hbr2⟩ := hrel
            have HPRE2 := Lib.hid hpre
            have hbw4 := below_trans hbw3 hbr2
            clear hpre
            by_cases hlt : k < L.length
            · obtain ⟨bA, oA, rfl, hbA, hcA⟩ := (HX.out.below hbr2) k hlt
              by_cases hz : nthN L k = 0
              · have HZ0 := Lib.hid hz
                rw [hz] at hcA
                clear hz
                go_wp2_with fail
                go_roundw
                case rel =>
                  refine ⟨k + 1, by omega, by go_num, fun j hj => ?_, hbr2⟩
                  rcases Nat.lt_or_ge j k with h | h
                  · exact HPRE2.out j h
                  · rw [show j = k by omega]; exact HZ0.out
                case measure => simp [intOf]; omega
              · have hV : false = ckB p n h S := by
                  by_cases he : er = 0
                  · rw [← HZ.out he]
                    symm
                    rw [List.all_eq_false]
                    refine ⟨nthN L k, by rw [nthN_eq hlt]; exact List.getElem_mem _, by simpa using hz⟩
                  · have := (HN.out he).1; subst this; exact absurd hlt (by simp)
                have HV := Lib.hid hV
                have t2 : ((nthN L k : Int) != 0) = true := by simp; omega
                have t3 : ¬ (nthN L k : Int) = 0 := by omega
                generalize nthN L k = y at *
                clear hz hV
                go_wp2_with fail
                go_ret
                exact RetB.bool HV.out hbw4
            · obtain rfl : k = L.length := by omega
              by_cases he : er = 0
              · have hV : true = ckB p n h S := by
                  rw [← HZ.out he]
                  symm
                  rw [List.all_eq_true]
                  intro y hy
                  obtain ⟨j, hj, rfl⟩ := List.getElem_of_mem hy
                  have := HPRE2.out j hj
                  rw [nthN_eq hj] at this
                  simp [this]
                have HV := Lib.hid hV
                clear hV
                subst he
                go_wp2_with fail
                go_ret
                exact RetB.bool HV.out hbw4
              · have HV := Lib.hid (HN.out he).2
                have t3 : (er == 0) = false := by simp [he]
                go_wp2_with fail
                go_ret
                exact RetB.bool HV.out hbw4
  · have HV := Lib.hid (ckB_len (p := p) (n := n) hlen)
    have t1 : ((S.length : Int) != h) = true := by simp [hlen]
    clear hlen
    go_enter Tryd.func39, Tryd.ntmps39
    go_wp2_with fail
    go_ret
    exact RetB.bool HV.out hbp
end Go.Proofs.YtlhipgejiacklaaDoor
namespace Go.Proofs.YtlhipgejiacklaaDoor
open Go.RowKit

def fndB (M : List ShN) (x q : Nat) : Bool := anyN (isH (shL M) x) q
theorem fnd_no {p h : Nat} {M : List ShN} (g : GoodN p h M) {q x : Nat} (hq : q < M.length) (hx : hN M q = x) : fndB M x q = false := by
  subst hx
  obtain ⟨-, h2⟩ := apI_of g hq
  have hT : isH (shL M) (hN M q) q = true := by unfold isH; rw [hS_shL hq]; simp
  rcases ixF_is (isH (shL M) (hN M q)) M.length with ⟨-, all⟩ | ⟨k, e, hk, -, hlt⟩
  · rw [all q hq] at hT; cases hT
  · have hkq : k = q := by unfold apI at h2; rw [e] at h2; omega
    subst hkq
    unfold fndB anyN
    rw [List.any_eq_false]
    intro j hj
    rw [hlt j (List.mem_range.1 hj)]; simp
theorem fnd_yes {M : List ShN} {q x : Nat} (hx : hN M q = x) (hq : q < M.length) : fndB M x (q + 1) = true := by
  unfold fndB
  refine anyN_of (Nat.lt_succ_self q) ?_
  unfold isH; rw [hS_shL hq, hx]; simp
theorem fnd_skip {M : List ShN} {q x : Nat} (hx : ¬ hN M q = x) (hq : q < M.length) : fndB M x (q + 1) = fndB M x q := by
  unfold fndB anyN
  rw [List.range_succ, List.any_append]
  have : isH (shL M) x q = false := by
    unfold isH; rw [hS_shL hq]
    simp; omega
  simp [this]
theorem RowsV.moreG {Q : Nat → Prop} {w w' : World} {base : Nat} {v v' : Value} {H : List HV} {S : List Shr} (e2 : H.length = S.length)
    (e3 : ∀ k, k < S.length → (hvAt H k).1 = hS S k ∧ ∃ B c, (hvAt H k).2 = .slice B (vS S k).length c ∧ IntsP (fun b => Q b ∧ v.ownBlock ≠ some b) w B c (vS S k))
    (x : Int) (L : List Int) {B : Option Addr} {c : Nat} (hI : IntsP (fun b => Q b ∧ v.ownBlock ≠ some b) w B c L) (hown : HvOwn w' base v' (H ++ [(x, .slice B L.length c)])) (hg : w.grownBy w' v.ownBlock)
    (hv : ∀ b, v'.ownBlock = some b → v.ownBlock = some b ∨ w.heap.size ≤ b) : RowsV Q w' base v' (S ++ [(x, L)]) := by
  have key : ∀ {B : Option Addr} {c : Nat} {L : List Int}, IntsP (fun b => Q b ∧ v.ownBlock ≠ some b) w B c L → IntsP (fun b => Q b ∧ v'.ownBlock ≠ some b) w' B c L := fun hI =>
    ((hI.mono (Q := fun b => (Q b ∧ v'.ownBlock ≠ some b) ∧ v.ownBlock ≠ some b) (fun b hlt hb => ⟨⟨hb.1, fun e => by
      rcases hv b e with h | h
      · exact hb.2 h
      · omega⟩, hb.2⟩)).keep (w' := w') ⟨hg.size, fun b hb hlt => hg.block b hlt (fun e => hb.2 e.symm)⟩).mono (fun b _ hb => hb.1)
  refine ⟨_, hown, by simp [e2], fun k hk => ?_⟩
  rcases Nat.lt_or_ge k S.length with h | h
  · obtain ⟨f1, B', c', f2, f3⟩ := e3 k h
    rw [hvAt_append (by omega), (hS_append h).1, (hS_append h).2]
    exact ⟨f1, B', c', f2, key f3⟩
  · obtain rfl : k = S.length := by simp at hk; omega
    rw [hS_last.1, hS_last.2]
    rw [show S.length = H.length from e2.symm, hvAt_last]
    exact ⟨rfl, B, c, rfl, key hI⟩
theorem rows_keep {Q : Nat → Prop} {w w' : World} {v : Value} {H : List HV} {S : List Shr}
    (e3 : ∀ k, k < S.length → (hvAt H k).1 = hS S k ∧ ∃ B c, (hvAt H k).2 = .slice B (vS S k).length c ∧ IntsP (fun b => Q b ∧ v.ownBlock ≠ some b) w B c (vS S k)) (hb : Below w.heap.size w w') :
    ∀ k, k < S.length → (hvAt H k).1 = hS S k ∧ ∃ B c, (hvAt H k).2 = .slice B (vS S k).length c ∧ IntsP (fun b => Q b ∧ v.ownBlock ≠ some b) w' B c (vS S k) := fun k hk => by
  obtain ⟨f1, B, c, f2, f3⟩ := e3 k hk
  exact ⟨f1, B, c, f2, f3.keep (Kept.below hb)⟩
theorem RowsV.lt1 {Q : Nat → Prop} {w : World} {base : Nat} {v : Value} {S : List Shr} (h : RowsV Q w base v S) (b : Nat) (e : v.ownBlock = some b) : b < w.heap.size := by
  obtain ⟨H, e1, -, -⟩ := h.ex
  exact (World.ownsRow.lt e1 b e).2
theorem RowsV.lo1 {Q : Nat → Prop} {w : World} {base : Nat} {v : Value} {S : List Shr} (h : RowsV Q w base v S) (b : Nat) (e : v.ownBlock = some b) : base ≤ b := by
  obtain ⟨H, e1, -, -⟩ := h.ex
  exact (World.ownsRow.lt e1 b e).1

set_option maxRecDepth 100000 in
set_option maxHeartbeats 4000000 in
theorem refApply_bad1 {P0 P' : Nat → Prop} {p n h : Nat} (P : PlanN p n h) (A B : Option Addr) (ca cb : Nat) (S Z : List Shr) (w : World) (hA : ShP P0 w A ca S) (hM : ShP P' w B cb Z) (hsS : Short S) (hsZ : Short Z) (hl : S.length ≤ 100000) (hl2 : Z.length ≤ 100000) (hb1' : gdB p h S = false) :
    Calls Tryd.prog 37 #[planV p n h, .slice A S.length ca, .slice B Z.length cb] w (ShErr [] 1 w) := by
  have hpv : primeV (p : Int) = true := by rw [P.pv]; have := of_decide_eq_true P.pl; exact this.2.2.2.2
  have hva := refValid_plan p n h (w.alloc (.cells #[.int .i64 (p : Int), .int .i64 (n : Int), .int .i64 (h : Int)] 28)) P.pv
  rw [P.pl] at hva
  have HVAL := Lib.hid hva
  have HGN := Lib.hid (fun (W : World) (hb : Below w.heap.size w W) => refGood_any p n h A ca S W hpv (hA.below hb) hsS (by omega))
  rw [hb1'] at HGN
  clear hb1'
  clear hva hA hM hsS hsZ P hpv
  go_enter Tryd.func37, Tryd.ntmps37
  go_wp2_with fail
  refine ret_below HVAL.out ?_
  intro w1 hb1
  have hbw1 := below_trans (below_alloc _ _) hb1
  have HP1 := Lib.hid ((PlanCell.new (w := w) p n h rfl).below hb1)
  have p0 := HP1.out.c0
  have p1 := HP1.out.c1
  have p2 := HP1.out.c2
  go_wp2_with fail
  refine ret_below (HGN.out _ hbw1) ?_
  intro w2 hb2
  have hbw2 := below_trans hbw1 hb2
  have HP2 := Lib.hid (HP1.out.below hb2)
  clear p0 p1 p2
  have p0 := HP2.out.c0
  have p1 := HP2.out.c1
  have p2 := HP2.out.c2
  go_wp2_with fail
  go_ret2
  exact ShErr.nil _ hbw2
set_option maxRecDepth 100000 in
set_option maxHeartbeats 4000000 in
theorem refApply_bad2 {P0 P' : Nat → Prop} {p n h : Nat} (P : PlanN p n h) (A B : Option Addr) (ca cb : Nat) (S Z : List Shr) (w : World) (hA : ShP P0 w A ca S) (hM : ShP P' w B cb Z) (hsS : Short S) (hsZ : Short Z) (hl : S.length ≤ 100000) (hl2 : Z.length ≤ 100000) (hb1' : gdB p h S = true) (hb2' : gdB p h Z = false) :
    Calls Tryd.prog 37 #[planV p n h, .slice A S.length ca, .slice B Z.length cb] w (ShErr [] 1 w) := by
  have hpv : primeV (p : Int) = true := by rw [P.pv]; have := of_decide_eq_true P.pl; exact this.2.2.2.2
  have hva := refValid_plan p n h (w.alloc (.cells #[.int .i64 (p : Int), .int .i64 (n : Int), .int .i64 (h : Int)] 28)) P.pv
  rw [P.pl] at hva
  have HVAL := Lib.hid hva
  have HGN := Lib.hid (fun (W : World) (hb : Below w.heap.size w W) => refGood_any p n h A ca S W hpv (hA.below hb) hsS (by omega))
  have HGM := Lib.hid (fun (W : World) (hb : Below w.heap.size w W) => refGood_any p n h B cb Z W hpv (hM.below hb) hsZ (by omega))
  rw [hb1'] at HGN
  rw [hb2'] at HGM
  clear hb1' hb2'
  clear hva hA hM hsS hsZ P hpv
  go_enter Tryd.func37, Tryd.ntmps37
  go_wp2_with fail
  refine ret_below HVAL.out ?_
  intro w1 hb1
  have hbw1 := below_trans (below_alloc _ _) hb1
  have HP1 := Lib.hid ((PlanCell.new (w := w) p n h rfl).below hb1)
  have p0 := HP1.out.c0
  have p1 := HP1.out.c1
  have p2 := HP1.out.c2
  go_wp2_with fail
  refine ret_below (HGN.out _ hbw1) ?_
  intro w2 hb2
  have hbw2 := below_trans hbw1 hb2
  have HP2 := Lib.hid (HP1.out.below hb2)
  clear p0 p1 p2
  have p0 := HP2.out.c0
  have p1 := HP2.out.c1
  have p2 := HP2.out.c2
  go_wp2_with fail
  refine ret_below (HGM.out _ hbw2) ?_
  intro w3 hb3
  have hbw3 := below_trans hbw2 hb3
  have HP3 := Lib.hid (HP2.out.below hb3)
  clear p0 p1 p2
  have p0 := HP3.out.c0
  have p1 := HP3.out.c1
  have p2 := HP3.out.c2
  go_wp2_with fail
  go_ret2
  exact ShErr.nil _ hbw3

set_option maxRecDepth 100000 in
set_option maxHeartbeats 8000000 in
theorem refApply_good {P0 P' : Nat → Prop} {p n h : Nat} (P : PlanN p n h) (A B : Option Addr) (ca cb kA kB : Nat) (N M : List ShN) (w : World) (gN : GoodN p h N) (gM : GoodN p h M) (hA : ShP P0 w A ca (shL N)) (hM : ShP P' w B cb (shL M)) (hkA : kA = N.length) (hkB : kB = M.length) (hl : N.length ≤ 100000) (hl2 : M.length ≤ 100000) :
    Calls Tryd.prog 37 #[planV p n h, .slice A kA ca, .slice B kB cb] w (ShErr (shL (apL p N M)) (apE N M) w) := by
  subst hkA hkB
  have hpv : primeV (p : Int) = true := by rw [P.pv]; have := of_decide_eq_true P.pl; exact this.2.2.2.2
  have hva := refValid_plan p n h (w.alloc (.cells #[.int .i64 (p : Int), .int .i64 (n : Int), .int .i64 (h : Int)] 28)) P.pv
  rw [P.pl] at hva
  have HVAL := Lib.hid hva
  have hshN : Short (shL N) := short_shL fun k hk => by have := gN.few k hk; omega
  have hshM : Short (shL M) := short_shL fun k hk => by have := gM.few k hk; omega
  have HGN := Lib.hid (fun (W : World) (hb : Below w.heap.size w W) => show Calls Tryd.prog 64 #[planV p n h, .slice A N.length ca] W (RetB (.bool true) W) from by have := refGood_any p n h A ca (shL N) W hpv (hA.below hb) hshN (by rw [shL_len]; omega); rw [← gdB_yes (gd_back gN), shL_len] at this; exact this)
  have HGM := Lib.hid (fun (W : World) (hb : Below w.heap.size w W) => show Calls Tryd.prog 64 #[planV p n h, .slice B M.length cb] W (RetB (.bool true) W) from by have := refGood_any p n h B cb (shL M) W hpv (hM.below hb) hshM (by rw [shL_len]; omega); rw [← gdB_yes (gd_back gM), shL_len] at this; exact this)
  have HA := Lib.hid hA
  have HM := Lib.hid hM
  have HGDN := Lib.hid gN
  have HGDM := Lib.hid gM
  have b0 : 1 ≤ p := P.p1
  have b1 : p ≤ 2147483648 := by have := P.p2; omega
  have HPN1 := Lib.hid (show 1 < p from by have := P.hp; have := P.n1; have := P.nh; omega)
  clear hva hA hM hshN hshM P hpv gN gM
  go_enter Tryd.func37, Tryd.ntmps37
  go_wp2_with fail
  refine ret_below HVAL.out ?_
  intro w1 hb1
  have hbw1 := below_trans (below_alloc _ _) hb1
  have HP1 := Lib.hid ((PlanCell.new (w := w) p n h rfl).below hb1)
  have p0 := HP1.out.c0
  have p1 := HP1.out.c1
  have p2 := HP1.out.c2
  go_wp2_with fail
  refine ret_below (HGN.out _ hbw1) ?_
  intro w2 hb2
  have hbw2 := below_trans hbw1 hb2
  have HP2 := Lib.hid (HP1.out.below hb2)
  clear p0 p1 p2
  have p0 := HP2.out.c0
  have p1 := HP2.out.c1
  have p2 := HP2.out.c2
  go_wp2_with fail
  refine ret_below (HGM.out _ hbw2) ?_
  intro w3 hb3
  have hbw3 := below_trans hbw2 hb3
  have HP3 := Lib.hid (HP2.out.below hb3)
  clear p0 p1 p2
  have p0 := HP3.out.c0
  have p1 := HP3.out.c1
  have p2 := HP3.out.c2
  have lp3 := HP3.out.lt
  clear HP1 HP2 hb1 hb2 hb3 hbw1 hbw2 HVAL HGN HGM
  go_wp2_with fail
  go_loopw [8, 31] (fun o i wr => ∃ k : Nat, k ≤ N.length ∧ i = .int .i64 k ∧ (∀ j, j < k → hasH M (hN N j) = true) ∧ RowsV (fun b => w3.heap.size ≤ b) wr w3.heap.size o (shL ((apT p N M).take k)) ∧ Below w3.heap.size w3 wr) (fun _ i _ => N.length - (intOf i).toNat)
  case atStart => exact ⟨0, Nat.zero_le _, rfl, fun j hj => absurd hj (by omega), RowsV.nil _ _ _, Below.refl _ _⟩
  case round =>
    obtain ⟨k, hk, rfl, hhas, hR, hbr⟩ := hrel
    have hbw := below_trans hbw3 hbr
    have hsz := hbr.size
    have HHAS := Lib.hid hhas
    have HR := Lib.hid hR
    clear hhas hR p0 p1 p2
    by_cases hlt : k < N.length
    · obtain ⟨b1', o1, B1, c1, rfl, hb1, -, x0', x1', hX, -⟩ := HA.out.nat hlt
      have x0 := (hbw.cell (p := ⟨b1', o1 + k * 2, none⟩) hb1).trans x0'
      have x1 := (hbw.cell (p := ⟨b1', o1 + k * 2 + 1, none⟩) hb1).trans x1'
      have hb1w : b1' < wr.heap.size := Nat.lt_of_lt_of_le hb1 hbw.size
      have HXW := Lib.hid hX
      clear x0' x1' hX
      obtain ⟨hx1, hx2, hLp⟩ := HGDN.out.rng k hlt
      have hlf := HGDN.out.few k hlt
      have HTK := Lib.hid (apT_take (p := p) (M := M) hlt)
      have HTL : Hid ((shL ((apT p N M).take k)).length = k) := Lib.hid (by rw [shL_len, List.length_take, apT_len]; omega)
      have HHX : Hid (hasH M (hN N k) = true → ∀ j, j < k + 1 → hasH M (hN N j) = true) := Lib.hid (fun e j hj => by
        rcases Nat.lt_or_ge j k with h1 | h1
        · exact HHAS.out j h1
        · obtain rfl : j = k := by omega
          exact e)
      have HNO : Hid (hasH M (hN N k) = false → apE N M = 5) := Lib.hid (fun e => by
        unfold apE; rw [if_neg]
        intro e2
        rw [apOk_at e2 hlt] at e; cases e)
      generalize hL : vN N k = L at *
      generalize hx : hN N k = x at *
      have HLP := Lib.hid hLp
      clear hLp hL hx
      go_wp2_with fail
      refine gen_world fun w4 hw4 => ?_
      have hsc : ShCell w4 wr.heap.size x (.slice B1 L.length c1) := by rw [hw4]; exact ShCell.new _ _ rfl
      have hb4 : Below wr.heap.size wr w4 := by rw [hw4]; exact below_alloc _ _
      have HSC := Lib.hid hsc
      clear hsc
      have hb34 : Below w3.heap.size w3 w4 := hbr.trans (hb4.mono hsz)
      have hz4 := hb34.size
      have HR4 := Lib.hid (HR.out.below hb4)
      have HB34 := Lib.hid hb34
      have HO4 := Lib.hid (fun e => Nat.lt_irrefl _ (HR.out.lt1 _ e))
      clear hw4 x0 x1 HR
      generalize wr.heap.size = g1 at *
      go_loopw [8, 11, 37] (fun o f j wq => ∃ (q : Nat) (fb : Bool), q ≤ M.length ∧ j = .int .i64 q ∧ f = .bool fb ∧ fb = fndB M x q ∧ RowsV (fun b => w3.heap.size ≤ b) wq w3.heap.size o (shL ((apT p N M).take (if fb = true then k + 1 else k))) ∧ o.ownBlock ≠ some g1 ∧ ShCell wq g1 x (.slice B1 L.length c1) ∧ w4.heap.size ≤ wq.heap.size ∧ Below w3.heap.size w3 wq) (fun _ _ j _ => M.length - (intOf j).toNat)
      case atStart => exact ⟨0, false, Nat.zero_le _, rfl, rfl, rfl, HR4.out, HO4.out, HSC.out, Nat.le_refl _, HB34.out⟩
      case round =>
        clear HR4 HO4 HSC HB34
        obtain ⟨q, fb, hq, rfl, rfl, hfb, hR, hog, hSq, hq4, hb3q⟩ := hrel
        have HFB := Lib.hid hfb
        have HRq := Lib.hid hR
        have HOG := Lib.hid hog
        have hbwq := below_trans hbw3 hb3q
        have hzq := hb3q.size
        have s0 := hSq.c0
        have s1 := hSq.c1
        have lgq := hSq.lt
        have HSC := Lib.hid hSq
        clear hfb hR hog hSq
        by_cases hql : q < M.length
        · obtain ⟨b2, o2, B2, c2, rfl, hb2, -, u0, u1, hU, -⟩ := (HM.out.below hbwq).nat hql
          by_cases hxx : hN M q = x
          · obtain ⟨-, -, hKp⟩ := HGDM.out.rng q hql
            have hkf := HGDM.out.few q hql
            have hf0 := fnd_no HGDM.out hql hxx
            have hf1 := fnd_yes hxx hql
            have hai : apI M x = q := by rw [← hxx]; exact (apI_of HGDM.out hql).2
            have HTE := HTK.out
            rw [hai] at HTE
            rw [HFB.out, hf0] at HRq
            obtain rfl : fb = false := HFB.out.trans hf0
            obtain ⟨OA, oc, hv, -⟩ := HRq.out.read
            rw [if_neg (by decide), HTL.out] at hv
            subst hv
            generalize hK : vN M q = K at *
            rw [hxx] at u0
            have HF1 := Lib.hid hf1
            have HTE := Lib.hid HTE
            have HKP := Lib.hid hKp
            clear hf0 hf1 hai hK hKp hxx HFB HTK
            have HLT := Lib.hid (fun b (e : (Value.slice OA k oc).ownBlock = some b) => (And.intro (HRq.out.lo1 b e) (HRq.out.lt1 b e)))
            go_wp2_with fail
            refine gen_world fun w7 hw7 => ?_
            have hsc2 : ShCell w7 wr.heap.size x (.slice B2 K.length c2) := by rw [hw7]; exact ShCell.new _ _ rfl
            have hb7 : Below wr.heap.size wr w7 := by rw [hw7]; exact below_alloc _ _
            have hz7 := hb7.size
            have t0 := hsc2.c0
            have t1 := hsc2.c1
            have lg2 := hsc2.lt
            have y0 := (hb7.cell (p := ⟨g1, 0, none⟩) lgq).trans s0
            have y1 := (hb7.cell (p := ⟨g1, 1, none⟩) lgq).trans s1
            have hP7 := (HP3.out.below hb3q).below hb7
            have z0 := hP7.c0
            have lpx := hP7.lt
            have lg1 : g1 < w7.heap.size := Nat.lt_of_lt_of_le lgq hz7
            have HX7 := Lib.hid ((HXW.out.below hbwq).below hb7)
            have HSC7 := Lib.hid (HSC.out.below hb7)
            have hg24 : w4.heap.size ≤ wr.heap.size := hq4
            have HU7 := Lib.hid (hU.below hb7)
            have HE7 : Hid (RowsV (fun b => w3.heap.size ≤ b) w7 w3.heap.size (.slice OA k oc) (shL ((apT p N M).take (if false = true then k + 1 else k)))) := Lib.hid (HRq.out.below hb7)
            have hlow7 : w3.heap.size ≤ w7.heap.size := by omega
            clear hw7 hsc2 hP7 u0 u1 hU s0 s1 HRq
            have hgw : w.heap.size < w3.heap.size := lp3
            have hgz3 : w3.heap.size ≤ wr.heap.size := hzq
            have HNE : Hid (∀ b, b = g1 ∨ b = w.heap.size ∨ b = wr.heap.size → (Value.slice OA k oc).ownBlock ≠ some b) := Lib.hid (fun b hb e => by
              have := HLT.out b e
              rcases hb with rfl | rfl | rfl
              · exact HOG.out e
              · omega
              · omega)
            generalize wr.heap.size = g2 at *
            obtain ⟨H', e1, e2, e3⟩ := HE7.out.ex
            have HE := Lib.hid (And.intro e2 e3)
            have hHl : H'.length ≤ 100000 := by rw [e2, if_neg (by decide), HTL.out]; omega
            have HOW := Lib.hid e1
            have hHk : k = H'.length := by rw [e2, if_neg (by decide), HTL.out]
            have HHK := Lib.hid hHk
            clear e1 e2 e3 hHk
            go_region_held3 (fun w' => w'.cell? ⟨g1, 0, none⟩ = some (.int .i64 (x : Int)) ∧ w'.cell? ⟨g1, 1, none⟩ = some (.slice B1 L.length c1) ∧ w'.cell? ⟨w.heap.size, 0, none⟩ = some (.int .i64 (p : Int)) ∧ w'.cell? ⟨g2, 1, none⟩ = some (.slice B2 K.length c2)) (first | go_keep | exact ⟨m0, m1, m2, m3⟩)
              (first
                | (go_at_call 32; refine (refLinear_any p B1 B2 L K c1 c2 1 _ b0 b1 (by exact HX7.out) (by exact HU7.out) HLP.out HKP.out (by have := HPN1.out; omega) (by omega) (by omega)).mono ?_; rintro e w8 ⟨v, rfl, hown8, hb8⟩; obtain ⟨VA, vc, rfl, hN8, hS8, hO8⟩ := own_sl hown8 rfl; have hb8' : Below w7.heap.size w7 w8 := (by first | exact below_undrew1 hb8 | exact hb8); have n0 := (hb8'.cell (p := ⟨g1, 0, none⟩) lg1).trans y0; have n1 := (hb8'.cell (p := ⟨g1, 1, none⟩) lg1).trans y1; have n2 := (hb8'.cell (p := ⟨w.heap.size, 0, none⟩) lpx).trans z0; have n3 := (hb8'.cell (p := ⟨g2, 1, none⟩) lg2).trans t1)
                | (refine step_app_hv _ rfl (.tmp 46) (.tmp 57) rfl w8 w3.heap.size (.slice OA k oc) H' x (.slice VA (linN p L K 1).length vc) rfl rfl ⟨rfl, rfl, rfl, rfl⟩ rfl (HOW.out.below hb8') (by omega) (Nat.le_trans hlow7 hb8'.size) ?_; intro g6 c6 w6 hown6 hg6 hat6 hb6; have hne : ∀ b, b < w8.heap.size → b = g1 ∨ b = w.heap.size ∨ b = g2 → w6.heap[b]? = w8.heap[b]? := (fun b hb hb' => hg6.block b hb (fun e => HNE.out b hb' e.symm)); have m0 := (World.cell?_of_block (w := w8) (hne g1 (Nat.lt_of_lt_of_le lg1 hb8'.size) (.inl rfl))).trans n0; have m1 := (World.cell?_of_block (w := w8) (hne g1 (Nat.lt_of_lt_of_le lg1 hb8'.size) (.inl rfl))).trans n1; have m2 := (World.cell?_of_block (w := w8) (hne w.heap.size (Nat.lt_of_lt_of_le lpx hb8'.size) (.inr (.inl rfl)))).trans n2; have m3 := (World.cell?_of_block (w := w8) (hne g2 (Nat.lt_of_lt_of_le lg2 hb8'.size) (.inr (.inr rfl)))).trans n3))
            all_goals
              have h78 : w7.heap.size ≤ w8.heap.size := hb8'.size
              have HI8 : Hid (IntsP (fun b => w3.heap.size ≤ b ∧ (Value.slice OA k oc).ownBlock ≠ some b) w8 VA vc (ofN (linN p L K 1))) := Lib.hid ⟨hN8.ints, by rw [len_ofN]; exact hS8.iok, fun b off e => .inr (by
                have h9 : w7.heap.size ≤ b := (hO8 b off e).1
                exact ⟨Nat.le_trans hlow7 h9, fun e2 => by have := (HLT.out b e2).2; omega⟩)⟩
              have HR6 := RowsV.moreG (v' := .slice (some ⟨g6, 0, none⟩) (H'.length + 1) c6) HE.out.1 (rows_keep HE.out.2 hb8') (x : Int) (ofN (linN p L K 1)) HI8.out (by rw [len_ofN]; exact hown6) hg6 (fun b e => by
                have h6 : g6 = b := Option.some.inj e
                subst h6; exact hat6)
              have HT6 : shL ((apT p N M).take (if false = true then k + 1 else k)) ++ [((x : Int), ofN (linN p L K 1))] = shL ((apT p N M).take (if true = true then k + 1 else k)) := by
                rw [if_neg (by decide), if_pos rfl, HTE.out]; simp [shL, shI]
              rw [HT6] at HR6
              have HR6 := Lib.hid HR6
              have HO6 : Hid ((Value.slice (some ⟨g6, 0, none⟩) (H'.length + 1) c6).ownBlock ≠ some g1) := Lib.hid (fun e => by
                have h6 : g6 = g1 := Option.some.inj e
                subst h6
                rcases hat6 with h | h
                · exact HOG.out h
                · omega)
              have HB6 := Lib.hid (hb3q.trans ((((hb7.mono hgz3).trans (hb8'.mono hlow7))).trans hb6))
              have HS6 : Hid (ShCell w6 g1 x (.slice B1 L.length c1)) := Lib.hid ((hne g1 (Nat.lt_of_lt_of_le lg1 hb8'.size) (.inl rfl)).trans (HSC7.out.below hb8'))
              have hz6 : w4.heap.size ≤ w6.heap.size := by have := hb6.size; omega
              clear HT6 hown6 hg6 hat6 hb6 hN8 hS8 hO8 hown8 hb8 hb8' m0 m1 m2 m3 n0 n1 n2 n3
              go_wp2_with fail
              go_roundw
              case rel => exact ⟨q + 1, true, by omega, by go_num, rfl, HF1.out.symm, HR6.out, HO6.out, HS6.out, hz6, HB6.out⟩
              case measure => simp [intOf]; omega
          · have hxi : ¬ ((hN M q : Nat) : Int) = (x : Int) := by omega
            have hxb : (((hN M q : Nat) : Int) == (x : Int)) = false := by simp; omega
            have HSK := Lib.hid (fnd_skip hxx hql)
            generalize vN M q = K at *
            generalize hN M q = y at *
            clear hxx hU
            go_wp2_with fail
            have hbA : Below wr.heap.size wr (wr.alloc (.cells #[.int .i64 (y : Int), .slice B2 K.length c2] 53)) := below_alloc _ _
            have HRA := Lib.hid (HRq.out.below hbA)
            have HBA := Lib.hid (hb3q.trans (hbA.mono hzq))
            have HSA := Lib.hid (HSC.out.below hbA)
            have hzA := Nat.le_trans hq4 hbA.size
            clear hbA
            go_roundw
            case rel => exact ⟨q + 1, fb, by omega, by go_num, rfl, HFB.out.trans HSK.out.symm, HRA.out, HOG.out, HSA.out, hzA, HBA.out⟩
            case measure => simp [intOf]; omega
        · obtain rfl : M.length = q := by omega
          have HBQ := Lib.hid hb3q
          cases fb with
          | true =>
            have HHH := Lib.hid (HHX.out (show hasH M x = true from HFB.out.symm))
            have HRF := Lib.hid (show RowsV (fun b => w3.heap.size ≤ b) wr w3.heap.size _ (shL ((apT p N M).take (k + 1))) from HRq.out)
            clear HRq HFB
            go_wp2_with fail
            go_roundw
            case rel => exact ⟨k + 1, by omega, by go_num, HHH.out, HRF.out, HBQ.out⟩
            case measure => simp [intOf]; omega
          | false =>
            have he := HNO.out (show hasH M x = false from HFB.out.symm)
            have hT : apL p N M = [] := by unfold apL; rw [if_neg (by rw [he]; decide)]
            have HE := Lib.hid (And.intro he hT)
            clear he hT HFB
            go_wp2_with fail
            go_ret2
            rw [HE.out.1, HE.out.2]
            exact ShErr.nil _ hbwq
    · obtain rfl : N.length = k := by omega
      obtain ⟨OA, oc, hv, hRd⟩ := HR.out.read
      have hTl : (apT p N M).take N.length = apT p N M := List.take_of_length_le (by rw [apT_len]; exact Nat.le_refl _)
      rw [hTl] at hv hRd
      rw [shL_len, apT_len] at hv
      subst hv
      have hok : apOk N M = true := by
        unfold apOk anyN
        rw [Bool.not_eq_true', List.any_eq_false]
        intro j hj
        rw [HHAS.out j (List.mem_range.1 hj)]; simp
      have HRd := Lib.hid (hRd.mono (Q := fun b => w.heap.size ≤ b) (fun b _ hb => by omega))
      have HBW := Lib.hid hbw
      have HOK := Lib.hid hok
      clear hRd hok hTl HR
      rcases Nat.eq_zero_or_pos N.length with h0 | h0
      · have he : apE N M = 0 := by unfold apE; rw [if_pos HOK.out, if_pos (.inl h0)]
        have hT : apL p N M = apT p N M := by unfold apL; rw [if_pos he]
        have hT2 : shL (apL p N M) = shL (apT p N M) := by rw [hT]
        have HX : Hid (ShErr (shL (apT p N M)) 0 w (.returned (.tuple #[.slice OA N.length oc, .int .i64 0])) (wr.drewN 0)) := Lib.hid ⟨OA, oc, by rw [shL_len, apT_len], HRd.out, HBW.out⟩
        have HRW := Lib.hid (And.intro HRd.out HBW.out)
        have HTL2 := Lib.hid (show (shL (apT p N M)).length = N.length by rw [shL_len, apT_len])
        have HE := Lib.hid (And.intro he hT2)
        generalize shL (apT p N M) = TT at *
        rw [h0] at HTL2 ⊢
        clear he hT hT2 h0 HX
        go_wp2_with fail
        go_quiet (fail)
        go_wp2_with fail
        go_ret2
        rw [HE.out.1, HE.out.2]
        exact ⟨OA, oc, by rw [HTL2.out]; rfl, HRW.out.1.below (below_drewN (Below.refl _ _) _), below_drewN HRW.out.2 _⟩
      · have hM0 : 0 < M.length := by
          have := (apI_at (HHAS.out 0 h0)).2.1
          omega
        obtain ⟨b1', o1, B1, c1, rfl, hb1, -, -, x1, -, -⟩ := (HA.out.below hbw).nat h0
        obtain ⟨b2, o2, B2, c2, rfl, hb2, -, -, u1, -, -⟩ := (HM.out.below hbw).nat hM0
        rw [Nat.zero_mul, Nat.add_zero] at x1 u1
        have h00 : (0 : Int) < (N.length : Int) := by omega
        have h01 : (0 : Int) < (M.length : Int) := by omega
        have hlf := HGDN.out.few 0 h0
        have hkf := HGDM.out.few 0 hM0
        have HQ := Lib.hid (show (vN N 0).length = (vN M 0).length → apE N M = 0 ∧ apL p N M = apT p N M from fun e => by
          have he : apE N M = 0 := by unfold apE; rw [if_pos HOK.out, if_pos (.inr e)]
          exact ⟨he, by unfold apL; rw [if_pos he]⟩)
        have HQ2 := Lib.hid (show ¬ (vN N 0).length = (vN M 0).length → apE N M = 2 ∧ apL p N M = [] from fun e => by
          have he : apE N M = 2 := by unfold apE; rw [if_pos HOK.out, if_neg (by omega)]
          exact ⟨he, by unfold apL; rw [if_neg (by rw [he]; decide)]⟩)
        generalize vN N 0 = L at *
        generalize vN M 0 = K at *
        by_cases hLK : L.length = K.length
        · obtain ⟨he, hT⟩ := HQ.out hLK
          have HE := Lib.hid (And.intro he hT)
          rw [hLK] at x1
          have hi : ((K.length : Int) != (K.length : Int)) = false := by simp
          have h02 : decide ((0 : Int) < (N.length : Int)) = true := decide_eq_true h00
          have h03 : decide ((0 : Int) < (M.length : Int)) = true := decide_eq_true h01
          clear he hT hLK HQ HQ2
          go_wp2_with fail
          go_quiet (fail)
          go_wp2_with fail
          go_ret2
          rw [HE.out.1, HE.out.2]
          exact ⟨OA, oc, by rw [shL_len, apT_len]; rfl, HRd.out.below (below_drewN (Below.refl _ _) _), below_drewN HBW.out _⟩
        · obtain ⟨he, hT⟩ := HQ2.out hLK
          have HE := Lib.hid (And.intro he hT)
          have hi : ((L.length : Int) != (K.length : Int)) = true := by simp; omega
          have h02 : decide ((0 : Int) < (N.length : Int)) = true := decide_eq_true h00
          have h03 : decide ((0 : Int) < (M.length : Int)) = true := decide_eq_true h01
          clear he hT HQ HQ2
          go_wp2_with fail
          go_quiet (fail)
          go_wp2_with fail
          go_ret2
          rw [HE.out.1, HE.out.2]
          exact ShErr.nil _ (below_drewN HBW.out _)

theorem refApply_any {P0 P' : Nat → Prop} {p n h : Nat} (P : PlanN p n h) (A B : Option Addr) (ca cb kA kB : Nat) (S Z : List Shr) (w : World) (hA : ShP P0 w A ca S) (hM : ShP P' w B cb Z) (hsS : Short S) (hsZ : Short Z) (hkA : kA = S.length) (hkB : kB = Z.length) (hl : S.length ≤ 100000) (hl2 : Z.length ≤ 100000) :
    Calls Tryd.prog 37 #[planV p n h, .slice A kA ca, .slice B kB cb] w (ShErr (shL (aT p h S Z)) (aE p h S Z) w) := by
  subst hkA hkB
  cases hgS : gdB p h S with
  | false =>
    have he : aE p h S Z = 1 := by unfold aE; rw [hgS]; rfl
    have ht : aT p h S Z = [] := by unfold aT; rw [if_neg (by rw [he]; decide)]
    rw [he, ht]
    exact refApply_bad1 P A B ca cb S Z w hA hM hsS hsZ hl hl2 hgS
  | true =>
    cases hgZ : gdB p h Z with
    | false =>
      have he : aE p h S Z = 1 := by unfold aE; rw [hgS, hgZ]; rfl
      have ht : aT p h S Z = [] := by unfold aT; rw [if_neg (by rw [he]; decide)]
      rw [he, ht]
      exact refApply_bad2 P A B ca cb S Z w hA hM hsS hsZ hl hl2 hgS hgZ
    | true =>
      obtain ⟨eS, gS⟩ := gd_nat (gdB_of hgS)
      obtain ⟨eZ, gZ⟩ := gd_nat (gdB_of hgZ)
      have he : aE p h S Z = apE (natL S) (natL Z) := by unfold aE; rw [hgS, hgZ]; rfl
      have hT : aT p h S Z = apL p (natL S) (natL Z) := by unfold aT apL; rw [he]
      rw [he, hT, ← natL_len S, ← natL_len Z]
      rw [eS] at hA
      rw [eZ] at hM
      rw [← natL_len] at hl hl2
      exact refApply_good P A B ca cb _ _ _ _ w gS gZ hA hM rfl rfl hl hl2
end Go.Proofs.YtlhipgejiacklaaDoor
namespace Go.Proofs.YtlhipgejiacklaaDoor
open Go.RowKit

theorem copy_new {P : Nat → Prop} (A : Option Addr) (S : List Shr) (c : Nat) (w : World) (hS : ShP P w A c S) (hsh : Short S) (hl : S.length ≤ 100000) :
    Calls Tryd.prog 67 #[.slice A S.length c] w (NewSh S w) := by
  refine (copy_any A c S w hS hsh (by omega)).mono ?_
  rintro e w' ⟨v, H, rfl, hR, hb⟩
  obtain ⟨A', c', rfl, h1⟩ := hR.read
  exact ⟨A', c', rfl, h1, hb⟩
set_option maxRecDepth 100000 in
set_option maxHeartbeats 4000000 in
theorem refSum_any {P : Nat → Prop} (p n h : Nat) (A : Option Addr) (c kL : Nat) (Ls : List (List Shr)) (w : World) (PN : PlanN p n h) (hA : ListsP P w A c Ls) (hsh : ShortLs Ls) (hk : kL = Ls.length) (hl : Ls.length ≤ 100000) :
    Calls Tryd.prog 38 #[planV p n h, .slice A kL c] w (ShErr (suL p h Ls) (suE p h Ls) w) := by
  subst hk
  have hpa := below_alloc w (.cells #[.int .i64 (p : Int), .int .i64 (n : Int), .int .i64 (h : Int)] 28)
  by_cases h0 : Ls.length = 0
  · have e1 : suE p h Ls = 5 := by unfold suE; rw [if_pos h0]
    have e2 : suL p h Ls = [] := by unfold suL; rw [if_pos h0]
    have t1 : ((Ls.length : Int) == 0) = true := by simp [h0]
    rw [e1, e2]
    clear h0 hA e1 e2
    go_enter Tryd.func38, Tryd.ntmps38
    go_wp2_with fail
    go_ret2
    exact ShErr.nil _ hpa
  · have t1 : ((Ls.length : Int) == 0) = false := by simp; exact fun e => h0 (by rw [e]; rfl)
    have h1 : 0 < Ls.length := by omega
    obtain ⟨b, off, B0, c0, rfl, hb, -, x0, hS0⟩ := hA.at_ 0 h1
    obtain ⟨hs0, hl0⟩ := hsh 0 h1
    have hpv : primeV (p : Int) = true := by rw [PN.pv]; have := of_decide_eq_true PN.pl; exact this.2.2.2.2
    have HVA := Lib.hid (fun (W : World) (hb : Below w.heap.size w W) => show Calls Tryd.prog 63 #[planV p n h] W (RetB (.bool true) W) from by have := refValid_plan p n h W PN.pv; rw [PN.pl] at this; exact this)
    have HGD := Lib.hid (fun (W : World) (hb : Below w.heap.size w W) => refGood_any p n h B0 c0 (lsAt Ls 0) W hpv (hS0.below hb) hs0 (by omega))
    have HOW := Lib.hid (fun (W : World) (hb : Below w.heap.size w W) => copy_new B0 (lsAt Ls 0) c0 W (hS0.below hb) hs0 hl0)
    have HPN := Lib.hid PN
    have HA := Lib.hid hA
    have HSH := Lib.hid hsh
    have hx0 := (hpa.cell (p := ⟨b, off, none⟩) hb).trans x0
    have hbz : b < (w.alloc (.cells #[.int .i64 (p : Int), .int .i64 (n : Int), .int .i64 (h : Int)] 28)).heap.size := Nat.lt_of_lt_of_le hb hpa.size
    cases hgd : gdB p h (lsAt Ls 0) with
    | false =>
      have e1 : suE p h Ls = 1 := by unfold suE; rw [if_neg h0, hgd]; rfl
      have e2 : suL p h Ls = [] := by unfold suL; rw [if_neg h0, hgd]; rfl
      rw [e1, e2]
      rw [hgd] at HGD
      generalize hLL : lsAt Ls 0 = S0 at *
      clear h0 hA hsh hS0 hs0 hl0 PN e1 e2 hgd x0 hLL
      go_enter Tryd.func38, Tryd.ntmps38
      go_wp2_with fail
      refine gen_world fun w1 hw1 => ?_
      have hpc1 : PlanCell w1 w.heap.size p n h := by rw [hw1]; exact PlanCell.new _ _ _ rfl
      have hb1 : Below w.heap.size w w1 := by rw [hw1]; exact below_alloc _ _
      have z0 : w1.cell? ⟨b, off, none⟩ = some (.slice B0 S0.length c0) := by rw [hw1]; exact hx0
      have lb1 : b < w1.heap.size := Nat.lt_of_lt_of_le hb hb1.size
      have lp1 := hpc1.lt
      have p0 := hpc1.c0
      have p1 := hpc1.c1
      have p2 := hpc1.c2
      have HP := Lib.hid hpc1
      clear hw1 hpc1 hx0 hpa hbz
      go_region_held3 (fun w' => w'.cell? ⟨w.heap.size, 0, none⟩ = some (.int .i64 (p : Int)) ∧ w'.cell? ⟨w.heap.size, 1, none⟩ = some (.int .i64 (n : Int)) ∧ w'.cell? ⟨w.heap.size, 2, none⟩ = some (.int .i64 (h : Int)) ∧ w'.cell? ⟨b, off, none⟩ = some (.slice B0 S0.length c0)) (first | go_keep)
        (first
          | (go_at_call 63; refine ret_below (HVA.out _ hb1.drew) ?_; intro w2 hb2; have hb2' : Below w1.heap.size w1 w2 := (below_undrew1 hb2); have lb2 : b < w2.heap.size := Nat.lt_of_lt_of_le lb1 hb2'.size; have lp2 : w.heap.size < w2.heap.size := Nat.lt_of_lt_of_le lp1 hb2'.size; have q0 := (HP.out.below hb2').c0; have q1 := (HP.out.below hb2').c1; have q2 := (HP.out.below hb2').c2; have qz := (hb2'.cell (p := ⟨b, off, none⟩) lb1).trans z0)
          | (go_at_call 64; refine ret_below (HGD.out _ (below_trans hb1 hb2')) ?_; intro w3 hb3; have hb3' : Below w1.heap.size w1 w3 := below_trans hb2' hb3; have lb3 : b < w3.heap.size := Nat.lt_of_lt_of_le lb1 hb3'.size; have r0 := (HP.out.below hb3').c0; have r1 := (HP.out.below hb3').c1; have r2 := (HP.out.below hb3').c2; have rz := (hb3'.cell (p := ⟨b, off, none⟩) lb1).trans z0))
      have hbw3 := below_trans hb1 hb3'
      have HP3 := Lib.hid (HP.out.below hb3')
      clear p0 p1 p2 z0 q0 q1 q2 qz hb2 hb2' hb3 hb1
      go_wp2_with fail
      go_ret2
      exact ShErr.nil _ hbw3
    | true =>
      have e1 : suE p h Ls = (sumR p h (lsAt Ls 0) (Ls.drop 1)).2 := by unfold suE; rw [if_neg h0, if_pos hgd]
      have e2 : suL p h Ls = (sumR p h (lsAt Ls 0) (Ls.drop 1)).1 := by unfold suL; rw [if_neg h0, if_pos hgd]
      rw [e1, e2]
      rw [hgd] at HGD
      have HS0 := Lib.hid hs0
      have HL0 := Lib.hid hl0
      generalize hLL : lsAt Ls 0 = S0 at *
      obtain ⟨RR, hRR⟩ : ∃ RR, RR = sumR p h S0 (Ls.drop 1) := ⟨_, rfl⟩
      rw [← hRR]
      have HRR := Lib.hid hRR
      clear h0 hA hsh hS0 hs0 hl0 PN e1 e2 hgd x0 hLL hRR
      go_enter Tryd.func38, Tryd.ntmps38
      go_wp2_with fail
      refine gen_world fun w1 hw1 => ?_
      have hpc1 : PlanCell w1 w.heap.size p n h := by rw [hw1]; exact PlanCell.new _ _ _ rfl
      have hb1 : Below w.heap.size w w1 := by rw [hw1]; exact below_alloc _ _
      have z0 : w1.cell? ⟨b, off, none⟩ = some (.slice B0 S0.length c0) := by rw [hw1]; exact hx0
      have lb1 : b < w1.heap.size := Nat.lt_of_lt_of_le hb hb1.size
      have lp1 := hpc1.lt
      have p0 := hpc1.c0
      have p1 := hpc1.c1
      have p2 := hpc1.c2
      have HP := Lib.hid hpc1
      clear hw1 hpc1 hx0 hpa hbz
      go_region_held3 (fun w' => w'.cell? ⟨w.heap.size, 0, none⟩ = some (.int .i64 (p : Int)) ∧ w'.cell? ⟨w.heap.size, 1, none⟩ = some (.int .i64 (n : Int)) ∧ w'.cell? ⟨w.heap.size, 2, none⟩ = some (.int .i64 (h : Int)) ∧ w'.cell? ⟨b, off, none⟩ = some (.slice B0 S0.length c0)) (first | go_keep)
        (first
          | (go_at_call 63; refine ret_below (HVA.out _ hb1.drew) ?_; intro w2 hb2; have hb2' : Below w1.heap.size w1 w2 := (below_undrew1 hb2); have lb2 : b < w2.heap.size := Nat.lt_of_lt_of_le lb1 hb2'.size; have lp2 : w.heap.size < w2.heap.size := Nat.lt_of_lt_of_le lp1 hb2'.size; have q0 := (HP.out.below hb2').c0; have q1 := (HP.out.below hb2').c1; have q2 := (HP.out.below hb2').c2; have qz := (hb2'.cell (p := ⟨b, off, none⟩) lb1).trans z0)
          | (go_at_call 64; refine ret_below (HGD.out _ (below_trans hb1 hb2')) ?_; intro w3 hb3; have hb3' : Below w1.heap.size w1 w3 := below_trans hb2' hb3; have lb3 : b < w3.heap.size := Nat.lt_of_lt_of_le lb1 hb3'.size; have r0 := (HP.out.below hb3').c0; have r1 := (HP.out.below hb3').c1; have r2 := (HP.out.below hb3').c2; have rz := (hb3'.cell (p := ⟨b, off, none⟩) lb1).trans z0))
      have hbw3 := below_trans hb1 hb3'
      have HP3 := Lib.hid (HP.out.below hb3')
      clear p0 p1 p2 z0 q0 q1 q2 qz hb2 hb2' hb3 hb1
      go_wp2_with fail
      refine (HOW.out _ hbw3).mono ?_
      rintro e w4 ⟨OA, oc, rfl, hO, hb4⟩
      have hbw4 := below_trans hbw3 hb4
      have HP4 := Lib.hid (HP3.out.below hb4)
      have q0 := HP4.out.c0
      have q1 := HP4.out.c1
      have q2 := HP4.out.c2
      have lp4 := HP4.out.lt
      have HO := Lib.hid (hO.mono (Q := fun b => w.heap.size ≤ b) (fun b _ hb => by have := hbw3.size; omega))
      have hcap := HA.out.ok.len
      obtain ⟨m, hm⟩ : ∃ m, Ls.length = m + 1 := ⟨Ls.length - 1, by omega⟩
      have HMM := Lib.hid hm
      have i0 : (1 : Int) ≤ ((m + 1 : Nat) : Int) := by omega
      have hm2 : m ≤ 100000 := by omega
      have hcap' : m + 1 ≤ c := by omega
      rw [hm]
      clear r0 r1 r2 rz hb4 hO HOW HGD HVA hcap
      generalize hml : Ls.length = LL at *
      have HLS := Lib.hid hml
      clear hml hm h1 t1
      by_cases hc1 : c = 1
      · subst hc1
        have HM0 := Lib.hid (show m = 0 by omega)
        go_wp2_with fail
        go_loopw [6, 32] (fun o i wr => ∃ (k : Nat) (O : List Shr) (OA : Option Addr) (oc : Nat), k ≤ m ∧ i = .int .i64 k ∧ o = .slice OA O.length oc ∧ ShP (fun b => w.heap.size ≤ b) wr OA oc O ∧ Short O ∧ O.length ≤ 100000 ∧ sumR p h O (Ls.drop (k + 1)) = RR ∧ Below w4.heap.size w4 wr) (fun _ i _ => m - (intOf i).toNat)
        case atStart => exact ⟨0, S0, OA, oc, Nat.zero_le _, rfl, rfl, HO.out, HS0.out, HL0.out, HRR.out.symm, Below.refl _ _⟩
        case round =>
          obtain ⟨k, O, OA', oc', hk, rfl, rfl, hO, hOs, hOl, hsr, hbr⟩ := hrel
          have HO' := Lib.hid hO
          have HOS := Lib.hid hOs
          have HSR := Lib.hid hsr
          have hbw := below_trans hbw4 hbr
          have hq := HP4.out.below hbr
          have y0 := hq.c0
          have y1 := hq.c1
          have y2 := hq.c2
          have hwz := hbw.size
          clear hO hOs hsr hq q0 q1 q2
          by_cases hlt : k < m
          · exact absurd hlt (by have := HM0.out; omega)
          · have HEND := Lib.hid (show RR = (O, 0) from by
              have e := HSR.out
              rw [List.drop_eq_nil_of_le (by have := HMM.out; have := HLS.out; omega)] at e
              exact e.symm)
            go_wp2_with fail
            go_ret2
            rw [HEND.out]
            exact ⟨OA', oc', rfl, HO'.out, hbw⟩
      · have HC1 := Lib.hid hc1
        go_wp2_with fail
        go_loopw [6, 32] (fun o i wr => ∃ (k : Nat) (O : List Shr) (OA : Option Addr) (oc : Nat), k ≤ m ∧ i = .int .i64 k ∧ o = .slice OA O.length oc ∧ ShP (fun b => w.heap.size ≤ b) wr OA oc O ∧ Short O ∧ O.length ≤ 100000 ∧ sumR p h O (Ls.drop (k + 1)) = RR ∧ Below w4.heap.size w4 wr) (fun _ i _ => m - (intOf i).toNat)
        case atStart => exact ⟨0, S0, OA, oc, Nat.zero_le _, rfl, rfl, HO.out, HS0.out, HL0.out, HRR.out.symm, Below.refl _ _⟩
        case round =>
          obtain ⟨k, O, OA', oc', hk, rfl, rfl, hO, hOs, hOl, hsr, hbr⟩ := hrel
          have HO' := Lib.hid hO
          have HOS := Lib.hid hOs
          have HSR := Lib.hid hsr
          have hbw := below_trans hbw4 hbr
          have hq := HP4.out.below hbr
          have y0 := hq.c0
          have y1 := hq.c1
          have y2 := hq.c2
          have hwz := hbw.size
          clear hO hOs hsr hq q0 q1 q2
          by_cases hlt : k < m
          · obtain ⟨b', off', Z, zc, hA', hb', -, x1, hZ⟩ := (HA.out.below hbw).at_ (k + 1) (by have := HMM.out; have := HLS.out; omega)
            injection hA' with hA'
            injection hA' with hA1 hA2
            subst hA1 hA2
            obtain ⟨hZs, hZl⟩ := HSH.out (k + 1) (by have := HMM.out; have := HLS.out; omega)
            rw [show off + (k + 1) = off + 1 + k by omega] at x1
            have HDR := Lib.hid (drop_at (Ls := Ls) (k := k + 1) (by have := HMM.out; have := HLS.out; omega))
            have HAP := Lib.hid (refApply_any HPN.out OA' Z oc' zc O.length (lsAt Ls (k + 1)).length O (lsAt Ls (k + 1)) wr HO'.out hZ HOS.out hZs rfl rfl hOl hZl)
            have HSHT := Lib.hid (aT_short (p := p) (h := h) HOS.out hZs)
            generalize hX : lsAt Ls (k + 1) = X at *
            clear hZ hZs hX
            by_cases he : aE p h O X = 0
            · have HTL := Lib.hid (aT_len he)
              have HE := Lib.hid he
              rw [he] at HAP
              clear he
              go_wp2_with fail
              refine HAP.out.mono ?_
              rintro e w5 ⟨NA, nc, rfl, hN, hb5⟩
              have HN := Lib.hid (hN.mono (Q := fun b => w.heap.size ≤ b) (fun b _ hb => by omega))
              have HB5 := Lib.hid (hbr.trans (hb5.mono hbr.size))
              have HS5 := Lib.hid (show sumR p h (shL (aT p h O X)) (Ls.drop (k + 1 + 1)) = RR from by
                have e := HSR.out
                rw [HDR.out] at e
                simp only [sumR] at e
                rw [if_pos HE.out] at e
                exact e)
              clear hN hb5
              go_wp2_with fail
              go_roundw
              case rel => exact ⟨k + 1, _, NA, nc, by omega, by go_num, rfl, HN.out, HSHT.out, by rw [HTL.out]; exact hOl, HS5.out, HB5.out⟩
              case measure => simp [intOf]; omega
            · have HEND := Lib.hid (show RR = ([], aE p h O X) from by
                have e := HSR.out
                rw [HDR.out] at e
                simp only [sumR] at e
                rw [if_neg he] at e
                exact e.symm)
              have HTN := Lib.hid (show aT p h O X = [] from by unfold aT; rw [if_neg he])
              have t5 : (aE p h O X != 0) = true := by simp [he]
              rw [HTN.out] at HAP
              generalize aE p h O X = er at *
              clear he
              go_wp2_with fail
              refine HAP.out.mono ?_
              rintro e w5 ⟨NA, nc, rfl, hN, hb5⟩
              go_wp2_with fail
              go_ret2
              rw [HEND.out]
              exact ShErr.nil _ (below_trans hbw hb5)
          · have HEND := Lib.hid (show RR = (O, 0) from by
              have e := HSR.out
              rw [List.drop_eq_nil_of_le (by have := HMM.out; have := HLS.out; omega)] at e
              exact e.symm)
            go_wp2_with fail
            go_ret2
            rw [HEND.out]
            exact ⟨OA', oc', rfl, HO'.out, hbw⟩
end Go.Proofs.YtlhipgejiacklaaDoor
namespace Go.Proofs.YtlhipgejiacklaaDoor
open Go.RowKit

attribute [local go_sem high] sliced_low
/-- The numbers of such a plan are no great ones. -/
structure AnyB (p n h : Int) : Prop where
  p1 : -7 ≤ p
  p2 : p ≤ 1073741827
  n1 : -1 ≤ n
  n2 : n ≤ 8
  h1 : 0 ≤ h
  h2 : h ≤ 1073741827
def AnyR (D : Nat) (w : World) (e : Ending) (w' : World) : Prop := ∃ (p n h : Int) (R' : List Int), e = .returned (planV p n h) ∧ AnyB p n h ∧ DiceAt w' D R' ∧ w.grownBy w' (some D)
def litP : List Int := [0, 1, 4, 9, -7, 1073741824, 1073741827, 500000004]
theorem litP_bd (k : Nat) (hk : k < 8) : -7 ≤ nth litP k ∧ nth litP k ≤ 1073741827 := by
  have : ∀ k, k < 8 → -7 ≤ nth litP k ∧ nth litP k ≤ 1073741827 := by decide
  exact this k hk
theorem lit_bd {L : List Int} {lo hi : Int} (h : ∀ x ∈ L, lo ≤ x ∧ x ≤ hi) {k : Nat} (hk : k < L.length) : lo ≤ nth L k ∧ nth L k ≤ hi := by rw [nth_eq hk]; exact h _ (List.getElem_mem hk)
theorem PlanCell.set0 {w : World} {x : Nat} {p n h : Int} (H : PlanCell w x p n h) (y : Int) : PlanCell (w.setCell ⟨x, 0, none⟩ (.int .i64 y)) x y n h := by
  unfold PlanCell at H ⊢; simp [World.setCell, Array.getElem?_modify, H]
theorem PlanCell.set1 {w : World} {x : Nat} {p n h : Int} (H : PlanCell w x p n h) (y : Int) : PlanCell (w.setCell ⟨x, 1, none⟩ (.int .i64 y)) x p y h := by
  unfold PlanCell at H ⊢; simp [World.setCell, Array.getElem?_modify, H]
theorem PlanCell.set2 {w : World} {x : Nat} {p n h : Int} (H : PlanCell w x p n h) (y : Int) : PlanCell (w.setCell ⟨x, 2, none⟩ (.int .i64 y)) x p n y := by
  unfold PlanCell at H ⊢; simp [World.setCell, Array.getElem?_modify, H]
theorem PlanCell.other {w : World} {x : Nat} {p n h : Int} (H : PlanCell w x p n h) (q : Addr) (u : Value) (hq : x ≠ q.block) : PlanCell (w.setCell q u) x p n h :=
  H.keep (Below.heap_setCell w q u x hq)

/-- What stands while such a plan is made. -/
structure ApW (w0 w : World) (D r x : Nat) (R : List Int) (p n h : Int) : Prop where
  dice : DiceAt w D R
  grown : w0.grownBy w (some D)
  r0 : PlanCell w r 0 0 0
  x0 : PlanCell w x p n h
  rlo : w0.heap.size ≤ r
  xlo : w0.heap.size ≤ x
  ne : r ≠ x
theorem ApW.dlt {w0 w : World} {D r x : Nat} {R : List Int} {p n h : Int} (H : ApW w0 w D r x R p n h) (hD : D < w0.heap.size) : D ≠ r ∧ D ≠ x := ⟨by have := H.rlo; omega, by have := H.xlo; omega⟩
theorem ApW.mv {w0 w w' : World} {D r x : Nat} {R R' : List Int} {p n h : Int} (H : ApW w0 w D r x R p n h) (hD : D < w0.heap.size) (hd : DiceAt w' D R') (hg : w.grownBy w' (some D)) : ApW w0 w' D r x R' p n h :=
  ⟨hd, grown_trans H.grown hg, H.r0.keep (hg.block r H.r0.lt (fun e => by injection e with e; have := H.rlo; omega)), H.x0.keep (hg.block x H.x0.lt (fun e => by injection e with e; have := H.xlo; omega)), H.rlo, H.xlo, H.ne⟩
theorem ApW.alloc {w0 w : World} {D r x : Nat} {R : List Int} {p n h : Int} (H : ApW w0 w D r x R p n h) (o : Obj) : ApW w0 (w.alloc o) D r x R p n h :=
  ⟨H.dice.alloc o, grown_trans H.grown (grown_of_below (below_alloc w o)), H.r0.alloc o, H.x0.alloc o, H.rlo, H.xlo, H.ne⟩
theorem ApW.set {w0 w w' : World} {D r x : Nat} {R : List Int} {p n h p' n' h' : Int} (H : ApW w0 w D r x R p n h) (hD : D < w0.heap.size) (j : Nat) (y : Int) (hw : w' = w.setCell ⟨x, j, none⟩ (.int .i64 y)) (hx : PlanCell w' x p' n' h') : ApW w0 w' D r x R p' n' h' := by
  subst hw
  exact ⟨H.dice.setCell _ _ (by have := H.xlo; show D < x; omega), grown_set H.grown _ _ H.xlo, H.r0.other _ _ H.ne, hx, H.rlo, H.xlo, H.ne⟩
def setQ (w : World) (x : Nat) (p n h : Int) : World := ((w.setCell ⟨x, 0, none⟩ (.int .i64 p)).setCell ⟨x, 1, none⟩ (.int .i64 n)).setCell ⟨x, 2, none⟩ (.int .i64 h)
theorem ApW.fin {w0 w : World} {D r x : Nat} {R : List Int} {p n h : Int} (H : ApW w0 w D r x R p n h) (hD : D < w0.heap.size) :
    DiceAt (setQ w r p n h) D R ∧ w0.grownBy (setQ w r p n h) (some D) ∧ PlanCell (setQ w r p n h) r p n h := by
  have hr := H.rlo
  refine ⟨((H.dice.setCell _ _ (by show D < r; omega)).setCell _ _ (by show D < r; omega)).setCell _ _ (by show D < r; omega), grown_set (grown_set (grown_set H.grown _ _ hr) _ _ hr) _ _ hr, H.r0.fill p n h⟩

theorem finA {w0 w : World} {D r : Nat} {R : List Int} {p n h : Int} (H : DiceAt w D R ∧ w0.grownBy w (some D) ∧ PlanCell w r p n h) (o : Obj) : DiceAt (w.alloc o) D R ∧ w0.grownBy (w.alloc o) (some D) ∧ PlanCell (w.alloc o) r p n h :=
  ⟨H.1.alloc o, grown_trans H.2.1 (grown_of_below (below_alloc w o)), H.2.2.alloc o⟩
theorem lit_late (w : World) (L : List Int) (k : Nat) (hk : k < L.length) : (w.alloc (.cells (L.map (Value.int .i64)).toArray 3)).cell? ⟨w.heap.size, k, none⟩ = some (.int .i64 (nth L k)) :=
  IntBlk.cell (heap_alloc_new w _) k hk
theorem lit_list (L : List Int) (k : Nat) (hk : k < L.length) : (L.map (Value.int .i64))[k]? = some (.int .i64 (nth L k)) := by rw [List.getElem?_map, nth_eq hk, List.getElem?_eq_getElem hk]; rfl
theorem lit_early {w w' : World} (L : List Int) {D k : Nat} (hg : (w.alloc (.cells (L.map (Value.int .i64)).toArray 3)).grownBy w' (some D)) (hD : D < w.heap.size) (hk : k < L.length) : w'.cell? ⟨w.heap.size, k, none⟩ = some (.int .i64 (nth L k)) :=
  (grown_cell hg _ _ (by simp) (by omega)).trans (lit_late w L k hk)
theorem enter_next (args : Array Value) (w : World) : (callFunc 19 args).run Tryd.prog w = .ok (.enter 19 args) w :=
  Go.MuLone.run_callFunc_enter Tryd.func19 (by kernel_rfl) rfl args w
theorem step_next {ops : Array Oper} {o : Oper} {a : Act} {K : Act → World → Prop} {Q : Exit → Act → World → Prop} {E : Prop} {D : Nat} {R : List Int} (W : World) (hgd : o.guard = none) (s : Operand) (n : Int)
    (ho : o.op = .call { callee := .value (.func 19), args := #[s, .const (.int .i64 n)], argTypes := #[25, 3] })
    (hs : a.eval s = .pointer (some ⟨D, 0, none⟩)) (hd : DiceAt W D R) (h1 : 1 ≤ n) (hn : n ≤ 4611686018427387904)
    (hK : ∀ (k : Nat) w', (k : Int) < n → DiceAt w' D R.tail → W.grownBy w' (some D) → K (a.put o.dst (.int .i64 (k : Int))) w') :
    if Region.wanted o (yielded ops a.tmps) = true then Oper.wp Tryd.prog o a W K Q else E := by
  refine step_call W hgd _ _ _ ho enter_next #[.pointer (some ⟨D, 0, none⟩), .int .i64 n] (by rw [← hs]; simp [Act.eval]) (next_nat D R n W hd h1 hn) ?_
  rintro e w' ⟨k, rfl, hk, hD, hg⟩
  exact ⟨_, rfl, hK k w' hk hD hg⟩
set_option maxRecDepth 100000 in
set_option maxHeartbeats 4000000 in
theorem anyPlan_any (D : Nat) (R : List Int) (w : World) (hd : DiceAt w D R) :
    Calls Tryd.prog 41 #[.pointer (some ⟨D, 0, none⟩)] w (AnyR D w) := by
  have hlt := hd.lt
  go_enter Tryd.func41, Tryd.ntmps41
  go_wp2_with fail
  refine (prime_any D R _ (hd.alloc _)).mono ?_
  rintro e w1 ⟨p, rfl, hpp, hp5, -, hD1, hg1⟩
  have hp2 := hpp.1
  have hX1 : PlanCell w1 w.heap.size 0 0 0 := (hg1.block w.heap.size (by simp) (fun e => by injection e with e; omega)).trans (PlanCell.new 0 0 0 rfl)
  have HGW := Lib.hid (grown_trans (grown_of_below (r := some D) (below_alloc w (.cells #[.int .i64 0, .int .i64 0, .int .i64 0] 28))) hg1)
  have HX1 := Lib.hid hX1
  have hz1 := hX1.lt
  clear hg1 hX1 hpp hd
  go_wp2_with fail
  refine (plan_any D _ p _ hD1 hp2 (by omega)).mono ?_
  rintro e w2 ⟨n, h, R2, rfl, ⟨hn1, hnh, hh7, hhp⟩, hD2, hg2⟩
  have HX2 := Lib.hid (HX1.out.keep (hg2.block _ hz1 (fun e => by injection e with e; omega)))
  have HG2 := Lib.hid (grown_trans HGW.out hg2)
  have hz2 := hg2.size
  clear hg2 HX1 HGW hD1
  go_wp2_with fail
  refine gen_calls fun w3 hw3 => ?_
  have HA : Hid (ApW w w3 D w.heap.size w2.heap.size R2 p n h) := Lib.hid (by
    rw [hw3]
    exact ⟨hD2.alloc _, grown_trans HG2.out (grown_of_below (below_alloc _ _)), HX2.out.alloc _, PlanCell.new _ _ _ rfl, Nat.le_refl _, by omega, by omega⟩)
  have hx3 : w.heap.size ≤ w2.heap.size := by omega
  obtain ⟨x, hx⟩ : ∃ x, x = w2.heap.size := ⟨_, rfl⟩
  rw [← hx] at HA hx3
  rw [← hx]
  clear hw3 hx HG2 HX2 hD2
  have q0 := HA.out.x0.c0
  have g0 := HA.out.r0.c0
  have q1 := HA.out.x0.c1
  have g1 := HA.out.r0.c1
  have q2 := HA.out.x0.c2
  have g2 := HA.out.r0.c2
  refine (next_nat D _ 12 _ HA.out.dice (by omega) (by omega)).mono ?_
  rintro e w4 ⟨m, rfl, hm, hD4, hg4⟩
  replace HA := Lib.hid (HA.out.mv hlt hD4 hg4)
  replace q0 := HA.out.x0.c0
  replace g0 := HA.out.r0.c0
  replace q1 := HA.out.x0.c1
  replace g1 := HA.out.r0.c1
  replace q2 := HA.out.x0.c2
  replace g2 := HA.out.r0.c2
  clear hD4 hg4
  by_cases h1 : m = 1
  · subst h1
    go_wp2_with fail
    refine (next_nat D _ 8 _ (HA.out.alloc _).dice (by omega) (by omega)).mono ?_
    rintro e w5 ⟨k, rfl, hk, hD5, hg5⟩
    have hI := (lit_ints w4 litP).grown hg5 (fun b off e => by injection e with e; injection e with e1; have := HA.out.dice.lt; omega)
    replace HA := Lib.hid ((HA.out.alloc _).mv hlt hD5 hg5)
    clear hD5 hg5
    obtain ⟨b, off, e, hbl, hcell⟩ := hI k (by show k < 8; omega)
    injection e with e
    injection e with e1 e2
    subst e1; subst e2
    rw [Nat.zero_add] at hcell
    have HBD := Lib.hid (lit_bd (L := litP) (lo := -7) (hi := 1073741827) (by decide) (k := k) (by show k < 8; omega))
    generalize nth litP k = y at *
    clear hI
    replace q0 := HA.out.x0.c0
    replace g0 := HA.out.r0.c0
    replace q1 := HA.out.x0.c1
    replace g1 := HA.out.r0.c1
    replace q2 := HA.out.x0.c2
    replace g2 := HA.out.r0.c2
    have f0 := HA.out.x0.frozen 0
    have f1 := HA.out.x0.frozen 1
    have f2 := HA.out.x0.frozen 2
    have k0 := HA.out.r0.frozen 0
    have k1 := HA.out.r0.frozen 1
    have k2 := HA.out.r0.frozen 2
    have e1 : ¬ x = w.heap.size := fun e => HA.out.ne e.symm
    have e2 : ¬ w.heap.size = x := HA.out.ne
    go_wp2_with fail
    have HF := Lib.hid (ApW.fin (HA.out.set hlt 0 y rfl (HA.out.x0.set0 y)) hlt)
    refine bodyPost_ret (results_plan rfl _ _ w.heap.size rfl HF.out.2.2) rfl ⟨y, n, h, _, rfl, ⟨HBD.out.1, HBD.out.2, by omega, by omega, by omega, by omega⟩, HF.out.1, HF.out.2.1⟩
  · by_cases h2 : m = 2
    · subst h2
      have f0 := HA.out.x0.frozen 0
      have f1 := HA.out.x0.frozen 1
      have f2 := HA.out.x0.frozen 2
      have k0 := HA.out.r0.frozen 0
      have k1 := HA.out.r0.frozen 1
      have k2 := HA.out.r0.frozen 2
      have e1 : ¬ x = w.heap.size := fun e => HA.out.ne e.symm
      have e2 : ¬ w.heap.size = x := HA.out.ne
      go_wp2_with fail
      go_region_law (first
          | (refine step_next _ rfl (.tmp 24) 3 rfl rfl (by exact HA.out.dice) (by omega) (by omega) ?_; intro k w5 hk hD5 hg5; have hg6 : w4.grownBy w5 (some D) := (by first | exact hg5 | exact grown_undrew hg5); replace HA := Lib.hid (HA.out.mv hlt hD5 hg6); replace q0 := HA.out.x0.c0; replace g0 := HA.out.r0.c0; replace f0 := HA.out.x0.frozen 0; replace k0 := HA.out.r0.frozen 0; replace q1 := HA.out.x0.c1; replace g1 := HA.out.r0.c1; replace f1 := HA.out.x0.frozen 1; replace k1 := HA.out.r0.frozen 1; replace q2 := HA.out.x0.c2; replace g2 := HA.out.r0.c2; replace f2 := HA.out.x0.frozen 2; replace k2 := HA.out.r0.frozen 2; have lx5 := HA.out.x0.lt; have lr5 := HA.out.r0.lt; have hcell := lit_list [0, -1, IntKind.i64.wrap ((h : Int) + 1)] k (show k < 3 by omega); simp only [List.map] at hcell; have HW := Lib.hid (fun (y : Int) (o : Obj) => finA (ApW.fin (HA.out.set hlt 1 y rfl (HA.out.x0.set1 y)) hlt) o))
          | (refine step_next _ rfl (.tmp 24) 3 rfl rfl (by exact (HA.out.alloc _).dice) (by omega) (by omega) ?_; intro k w5 hk hD5 hg5; have hg6 : (w4.alloc (.cells #[.int .i64 0, .int .i64 (-1), .int .i64 (IntKind.i64.wrap ((h : Int) + 1))] 3)).grownBy w5 (some D) := (by first | exact hg5 | exact grown_undrew hg5); have hcell := lit_early [0, -1, IntKind.i64.wrap ((h : Int) + 1)] hg6 (by have := HA.out.dice.lt; omega) (show k < 3 by omega); replace HA := Lib.hid ((HA.out.alloc _).mv hlt hD5 hg6); replace q0 := HA.out.x0.c0; replace g0 := HA.out.r0.c0; replace f0 := HA.out.x0.frozen 0; replace k0 := HA.out.r0.frozen 0; replace q1 := HA.out.x0.c1; replace g1 := HA.out.r0.c1; replace f1 := HA.out.x0.frozen 1; replace k1 := HA.out.r0.frozen 1; replace q2 := HA.out.x0.c2; replace g2 := HA.out.r0.c2; replace f2 := HA.out.x0.frozen 2; replace k2 := HA.out.r0.frozen 2; have lx5 := HA.out.x0.lt; have lr5 := HA.out.r0.lt; have HW := Lib.hid (fun (y : Int) => ApW.fin (HA.out.set hlt 1 y rfl (HA.out.x0.set1 y)) hlt)))
      all_goals
        have HBD := Lib.hid (lit_bd (L := [0, -1, IntKind.i64.wrap ((h : Int) + 1)]) (lo := -1) (hi := 8) (by intro z hz; simp at hz; rcases hz with rfl | rfl | rfl <;> (try rw [IntWalk.i64_in _ (by omega)]) <;> omega) (k := k) (by show k < 3; omega))
        generalize nth [0, -1, IntKind.i64.wrap ((h : Int) + 1)] k = y at *
        clear hcell hD5 hg5 hg6
        go_wp2_with fail
        first
        | (refine bodyPost_ret (results_plan rfl _ _ w.heap.size rfl (HW.out y _).2.2) rfl ⟨p, y, h, _, rfl, ⟨by omega, by omega, HBD.out.1, HBD.out.2, by omega, by omega⟩, (HW.out y _).1, (HW.out y _).2.1⟩)
        | (refine bodyPost_ret (results_plan rfl _ _ w.heap.size rfl (HW.out y).2.2) rfl ⟨p, y, h, _, rfl, ⟨by omega, by omega, HBD.out.1, HBD.out.2, by omega, by omega⟩, (HW.out y).1, (HW.out y).2.1⟩)
    · by_cases h3 : m = 3
      · subst h3
        have f0 := HA.out.x0.frozen 0
        have f1 := HA.out.x0.frozen 1
        have f2 := HA.out.x0.frozen 2
        have k0 := HA.out.r0.frozen 0
        have k1 := HA.out.r0.frozen 1
        have k2 := HA.out.r0.frozen 2
        have e1 : ¬ x = w.heap.size := fun e => HA.out.ne e.symm
        have e2 : ¬ w.heap.size = x := HA.out.ne
        go_wp2_with fail
        go_region_law (first
            | (refine step_next _ rfl (.tmp 34) 4 rfl rfl (by exact HA.out.dice) (by omega) (by omega) ?_; intro k w5 hk hD5 hg5; have hg6 : w4.grownBy w5 (some D) := (by first | exact hg5 | exact grown_undrew hg5); replace HA := Lib.hid (HA.out.mv hlt hD5 hg6); replace q0 := HA.out.x0.c0; replace g0 := HA.out.r0.c0; replace f0 := HA.out.x0.frozen 0; replace k0 := HA.out.r0.frozen 0; replace q1 := HA.out.x0.c1; replace g1 := HA.out.r0.c1; replace f1 := HA.out.x0.frozen 1; replace k1 := HA.out.r0.frozen 1; replace q2 := HA.out.x0.c2; replace g2 := HA.out.r0.c2; replace f2 := HA.out.x0.frozen 2; replace k2 := HA.out.r0.frozen 2; have lx5 := HA.out.x0.lt; have lr5 := HA.out.r0.lt; have hcell := lit_list [0, 16, 17, (p : Int)] k (show k < 4 by omega); simp only [List.map] at hcell; have HW := Lib.hid (fun (y : Int) (o : Obj) => finA (ApW.fin (HA.out.set hlt 2 y rfl (HA.out.x0.set2 y)) hlt) o))
            | (refine step_next _ rfl (.tmp 34) 4 rfl rfl (by exact (HA.out.alloc _).dice) (by omega) (by omega) ?_; intro k w5 hk hD5 hg5; have hg6 : (w4.alloc (.cells #[.int .i64 0, .int .i64 16, .int .i64 17, .int .i64 (p : Int)] 3)).grownBy w5 (some D) := (by first | exact hg5 | exact grown_undrew hg5); have hcell := lit_early [0, 16, 17, (p : Int)] hg6 (by have := HA.out.dice.lt; omega) (show k < 4 by omega); replace HA := Lib.hid ((HA.out.alloc _).mv hlt hD5 hg6); replace q0 := HA.out.x0.c0; replace g0 := HA.out.r0.c0; replace f0 := HA.out.x0.frozen 0; replace k0 := HA.out.r0.frozen 0; replace q1 := HA.out.x0.c1; replace g1 := HA.out.r0.c1; replace f1 := HA.out.x0.frozen 1; replace k1 := HA.out.r0.frozen 1; replace q2 := HA.out.x0.c2; replace g2 := HA.out.r0.c2; replace f2 := HA.out.x0.frozen 2; replace k2 := HA.out.r0.frozen 2; have lx5 := HA.out.x0.lt; have lr5 := HA.out.r0.lt; have HW := Lib.hid (fun (y : Int) => ApW.fin (HA.out.set hlt 2 y rfl (HA.out.x0.set2 y)) hlt)))
        all_goals
          have HBD := Lib.hid (lit_bd (L := [0, 16, 17, (p : Int)]) (lo := 0) (hi := 1073741827) (by intro z hz; simp at hz; rcases hz with rfl | rfl | rfl | rfl <;> (try rw [IntWalk.i64_in _ (by omega)]) <;> omega) (k := k) (by show k < 4; omega))
          generalize nth [0, 16, 17, (p : Int)] k = y at *
          clear hcell hD5 hg5 hg6
          go_wp2_with fail
          first
          | (refine bodyPost_ret (results_plan rfl _ _ w.heap.size rfl (HW.out y _).2.2) rfl ⟨p, n, y, _, rfl, ⟨by omega, by omega, by omega, by omega, HBD.out.1, HBD.out.2⟩, (HW.out y _).1, (HW.out y _).2.1⟩)
          | (refine bodyPost_ret (results_plan rfl _ _ w.heap.size rfl (HW.out y).2.2) rfl ⟨p, n, y, _, rfl, ⟨by omega, by omega, by omega, by omega, HBD.out.1, HBD.out.2⟩, (HW.out y).1, (HW.out y).2.1⟩)
      · have h1' : ¬ (m : Int) = 1 := by omega
        have h2' : ¬ (m : Int) = 2 := by omega
        have h3' : ¬ (m : Int) = 3 := by omega
        have f0 := HA.out.x0.frozen 0
        have f1 := HA.out.x0.frozen 1
        have f2 := HA.out.x0.frozen 2
        have k0 := HA.out.r0.frozen 0
        have k1 := HA.out.r0.frozen 1
        have k2 := HA.out.r0.frozen 2
        have e1 : ¬ x = w.heap.size := fun e => HA.out.ne e.symm
        have e2 : ¬ w.heap.size = x := HA.out.ne
        go_wp2_with fail
        have HF := Lib.hid (ApW.fin (HA.out) hlt)
        refine bodyPost_ret (results_plan rfl _ _ w.heap.size rfl HF.out.2.2) rfl ⟨p, n, h, _, rfl, ⟨by omega, by omega, by omega, by omega, by omega, by omega⟩, HF.out.1, HF.out.2.1⟩
end Go.Proofs.YtlhipgejiacklaaDoor
namespace Go.Proofs.YtlhipgejiacklaaDoor
open Go.RowKit

theorem RowsI.grow {w W w' : World} {base g c : Nat} {H : List HV} {T : List Shr} (h : RowsI w base (.slice (some ⟨g, 0, none⟩) H.length c) H T) (k : Nat) (hk : k < T.length) (y : Int) (g' cap : Nat) (hW : Below w.heap.size w W)
    (hown : w'.ownsRow base 3 1 (.slice (some ⟨g', 0, none⟩) ((vS T k).length + 1) cap) ((vS T k).length + 1) (valsI (vS T k ++ [y]))) (hg : W.grownBy w' (hvAt H k).2.ownBlock) (hat : (hvAt H k).2.ownBlock = some g' ∨ g' = W.heap.size) :
    RowsI (w'.setCell ⟨g, k * 2 + 1, none⟩ (.slice (some ⟨g', 0, none⟩) ((vS T k).length + 1) cap)) base (.slice (some ⟨g, 0, none⟩) H.length c) (H.set k ((hvAt H k).1, .slice (some ⟨g', 0, none⟩) ((vS T k).length + 1) cap)) (T.set k (hS T k, vS T k ++ [y])) := by
  have hl := h.len
  have hWs := hW.size
  have hgb : ∀ b, (Value.slice (some ⟨g, 0, none⟩) H.length c).ownBlock = some b → b = g := fun b e => (Option.some.inj (show some g = some b from e)).symm
  have hrg : ∀ j, j < T.length → ∀ b, (hvAt H j).2.ownBlock = some b → b ≠ g := fun j hj b e e2 => h.no j hj b e (by rw [e2]; rfl)
  have hW1 := h.below hW
  have hout := hW1.out.kept hg (by
    rcases he : (hvAt H k).2.ownBlock with _ | b
    · exact .inr (fun e => by cases e)
    · exact .inr (fun e => hrg k hk b he (Option.some.inj (show some g = some b from e)).symm))
  have hg'g : g' ≠ g := by
    rcases hat with e | e
    · exact hrg k hk g' e
    · have := (World.ownsRow.lt h.out g rfl).2; omega
  have hTs : ∀ j, j ≠ k → hS (T.set k (hS T k, vS T k ++ [y])) j = hS T j ∧ vS (T.set k (hS T k, vS T k ++ [y])) j = vS T j := fun j hj => by
    simp [hS, vS, List.getD_eq_getElem?_getD, List.getElem?_set_ne (Ne.symm hj)]
  have hTk : hS (T.set k (hS T k, vS T k ++ [y])) k = hS T k ∧ vS (T.set k (hS T k, vS T k ++ [y])) k = vS T k ++ [y] := by
    simp [hS, vS, List.getD_eq_getElem?_getD, hk]
  have hrows : ∀ j, j < T.length → j ≠ k → w'.ownsRow base 3 1 (hvAt H j).2 (vS T j).length (valsI (vS T j)) := fun j hj hjk => (hW1.row j hj).kept hg (by
    rcases he : (hvAt H j).2.ownBlock with _ | b
    · exact .inl rfl
    · exact .inr (fun e => h.ne j k hj hk hjk b he e.symm))
  have hbk : ∀ j, j < T.length → j ≠ k → ∀ b, (hvAt H j).2.ownBlock = some b → b ≠ g' := fun j hj hjk b e e2 => by
    rcases hat with e3 | e3
    · exact h.ne j k hj hk hjk b e (by rw [e3, e2])
    · have := (World.ownsRow.lt (h.row j hj) b e).2; omega
  have hs := hout.set1 k (by omega) (.slice (some ⟨g', 0, none⟩) ((vS T k).length + 1) cap)
  refine ⟨?_, by simp [hl], fun j hj => ?_, fun j hj => ?_, fun i j hi hj hij b e1 e2 => ?_, fun i hi b e1 e2 => ?_⟩
  · exact hs
  · simp only [List.length_set] at hj
    by_cases hjk : j = k
    · subst hjk; rw [hvAt_set_same _ _ _ (by omega), hTk.1]; exact h.hold j hj
    · rw [hvAt_set_other _ _ _ _ (Ne.symm hjk), (hTs j hjk).1]; exact h.hold j hj
  · simp only [List.length_set] at hj
    by_cases hjk : j = k
    · subst hjk
      rw [hvAt_set_same _ _ _ (by omega), hTk.2, List.length_append]
      exact own_other hown _ _ (fun b e => by
        have : g' = b := Option.some.inj (show some g' = some b from e)
        subst this; exact hg'g)
    · rw [hvAt_set_other _ _ _ _ (Ne.symm hjk), (hTs j hjk).2]
      exact own_other (hrows j hj hjk) _ _ (fun b e => hrg j hj b e)
  · simp only [List.length_set] at hi hj
    by_cases hik : i = k
    · subst hik
      rw [hvAt_set_same _ _ _ (by omega)] at e1
      rw [hvAt_set_other _ _ _ _ hij] at e2
      exact hbk j hj (Ne.symm hij) b e2 (Option.some.inj (show some g' = some b from e1)).symm
    · rw [hvAt_set_other _ _ _ _ (Ne.symm hik)] at e1
      by_cases hjk : j = k
      · subst hjk
        rw [hvAt_set_same _ _ _ (by omega)] at e2
        exact hbk i hi hik b e1 (Option.some.inj (show some g' = some b from e2)).symm
      · rw [hvAt_set_other _ _ _ _ (Ne.symm hjk)] at e2
        exact h.ne i j hi hj hij b e1 e2
  · simp only [List.length_set] at hi
    have hb := hgb b (by simpa using e2)
    by_cases hik : i = k
    · subst hik
      rw [hvAt_set_same _ _ _ (by omega)] at e1
      exact hg'g ((Option.some.inj (show some g' = some b from e1)).trans hb)
    · rw [hvAt_set_other _ _ _ _ (Ne.symm hik)] at e1
      exact hrg i hi b e1 hb


theorem step_app_rowI {ops : Array Oper} {o : Oper} {a : Act} {K : Act → World → Prop} {Q : Exit → Act → World → Prop} {E : Prop} (W : World) (hgd : o.guard = none) (s x : Operand)
    (ho : o.op = .call { callee := .builtin .append, args := #[s, x], argTypes := #[22, 22] })
    (w5 : World) (base : Nat) (v : Value) (S : List Int) (y : Int) (hs : a.eval s = v) (hx : a.eval x = .slice (some ⟨w5.heap.size, 0, none⟩) 1 1)
    (hW : W.heap = (w5.alloc (.cells #[.int .i64 y] 3)).heap ∧ W.os = w5.os ∧ W.tape = w5.tape ∧ W.output = w5.output)
    (hown : w5.ownsRow base 3 1 v S.length (valsI S)) (hl : S.length ≤ 4194304) (hbase : base ≤ w5.heap.size)
    (h : ∀ g cap w', w'.ownsRow base 3 1 (.slice (some ⟨g, 0, none⟩) (S.length + 1) cap) (S.length + 1) (valsI (S ++ [y])) → W.grownBy w' v.ownBlock → Below w5.heap.size w5 W → (v.ownBlock = some g ∨ g = W.heap.size) → Below base w5 w' → K (a.put o.dst (.slice (some ⟨g, 0, none⟩) (S.length + 1) cap)) w') :
    if Region.wanted o (yielded ops a.tmps) = true then Oper.wp Tryd.prog o a W K Q else E := by
  obtain ⟨i0, hi, hz0, hz1, hz2⟩ := info_parts info_int
  have hownW : W.ownsRow base 3 1 v S.length (valsI S) := by
    obtain ⟨h1, h2⟩ := own_below hown (below_alloc w5 (.cells #[.int .i64 y] 3))
    refine ⟨h1, ?_⟩
    rw [hW.1]; exact h2
  have hsz : W.heap.size = w5.heap.size + 1 := by rw [hW.1]; simp
  have hcell : ∀ x, W.cell? x = (w5.alloc (.cells #[.int .i64 y] 3)).cell? x := fun x => by unfold World.cell?; rw [hW.1]
  refine step_append_lies _ hgd s x 22 ho base 3 i0 _ 1 8 Tryd.underlying22 hi hz0 hz1 hz2 rfl (by omega) v S.length (valsI S) hs hownW ⟨w5.heap.size, 0, none⟩ 1 1 (valsI [y]) hx rfl (fun j u hu => (hcell _).trans (IntsAt.news (lit_ints w5 [y]) (.inr rfl) j u hu)) (valsI_one [y]) (by omega) (by unfold maxLen; omega) (by omega) (by omega) _ rfl ?_
  intro g cap w' ho' hg hat _
  have hbW : Below w5.heap.size w5 W := ⟨hW.2.1, hW.2.2.1, hW.2.2.2, by omega, fun k hk => by rw [hW.1]; exact heap_alloc_old w5 _ hk⟩
  refine h g cap w' ?_ hg hbW hat ((hbW.mono hbase).trans ((Below.refl _ _).grown hg (by omega) (fun k hk => by have := (hown.lt k hk).1; omega)))
  simpa [valsI] using ho'


theorem sset_at {S : List Shr} {k : Nat} {x : Int} {L : List Int} (hk : k < S.length) : hS (S.set k (x, L)) k = x ∧ vS (S.set k (x, L)) k = L := by
  simp [hS, vS, List.getD_eq_getElem?_getD, hk]
theorem sset_other {S : List Shr} {k j : Nat} {x : Int} {L : List Int} (h : k ≠ j) : hS (S.set k (x, L)) j = hS S j ∧ vS (S.set k (x, L)) j = vS S j := by
  simp [hS, vS, List.getD_eq_getElem?_getD, List.getElem?_set_ne h]
/-- One share's holder is another. -/
theorem RowsI.hold_set {w : World} {base g c : Nat} {H : List HV} {S : List Shr} (h : RowsI w base (.slice (some ⟨g, 0, none⟩) H.length c) H S) (k : Nat) (hk : k < S.length) (x : Int) :
    RowsI (w.setCell ⟨g, k * 2, none⟩ (.int .i64 x)) base (.slice (some ⟨g, 0, none⟩) H.length c) (H.set k (x, (hvAt H k).2)) (S.set k (x, vS S k)) := by
  have hl := h.len
  have hkH : k < H.length := by omega
  have hrg : ∀ j, j < S.length → ∀ b, (hvAt H j).2.ownBlock = some b → b ≠ g := fun j hj b e e2 => h.no j hj b e (by rw [e2]; rfl)
  have h2 : ∀ j, (hvAt (H.set k (x, (hvAt H k).2)) j).2 = (hvAt H j).2 := fun j => by
    by_cases hjk : k = j
    · subst hjk; rw [hvAt_set_same _ _ _ hkH]
    · rw [hvAt_set_other _ _ _ _ hjk]
  have h3 : ∀ j, vS (S.set k (x, vS S k)) j = vS S j := fun j => by
    by_cases hjk : k = j
    · subst hjk; exact (sset_at hk).2
    · exact (sset_other hjk).2
  refine ⟨h.out.set0 k hkH x, by simp [hl], fun j hj => ?_, fun j hj => ?_, fun i j hi hj hij b e1 e2 => ?_, fun i hi b e1 e2 => ?_⟩
  · simp only [List.length_set] at hj
    by_cases hjk : k = j
    · subst hjk; rw [hvAt_set_same _ _ _ hkH, (sset_at hk).1]
    · rw [hvAt_set_other _ _ _ _ hjk, (sset_other hjk).1]; exact h.hold j hj
  · simp only [List.length_set] at hj
    rw [h2, h3]
    exact own_other (h.row j hj) _ _ (fun b e => hrg j hj b e)
  · simp only [List.length_set] at hi hj
    rw [h2] at e1 e2
    exact h.ne i j hi hj hij b e1 e2
  · simp only [List.length_set] at hi
    rw [h2] at e1
    exact h.no i hi b e1 e2
theorem valsI_set (L : List Int) (j : Nat) (y : Int) : (valsI L).set j (.int .i64 y) = valsI (L.set j y) := by simp [valsI, List.map_set]
/-- A row of the own, one of whose numbers is another. -/
theorem own_set {w : World} {base b c n : Nat} {L : List Int} (h : w.ownsRow base 3 1 (.slice (some ⟨b, 0, none⟩) n c) n (valsI L)) (hn : n = L.length) (j : Nat) (hj : j < L.length) (y : Int) :
    (w.setCell ⟨b, j, none⟩ (.int .i64 y)).ownsRow base 3 1 (.slice (some ⟨b, 0, none⟩) n c) n (valsI (L.set j y)) := by
  subst hn
  obtain ⟨h1, h2⟩ := h
  refine ⟨by simp [valsI], ?_⟩
  rcases h2 with ⟨h2, _⟩ | ⟨g, cap, cur, hv, hg, hh, hnc, hcm, hcs, htk⟩
  · cases h2
  · injection hv with e1 e2 e3
    injection e1 with e1
    injection e1 with e1
    subst e1; subst e3
    refine .inr ⟨b, c, cur.setIfInBounds j (.int .i64 y), rfl, hg, by simp [World.setCell, Array.getElem?_modify, hh], hnc, hcm, by simpa using hcs, ?_⟩
    rw [Array.toList_setIfInBounds, List.take_set, htk, valsI_set]
/-- One share's value is another. -/
theorem RowsI.val_set {w : World} {base b c' : Nat} {v : Value} {H : List HV} {S : List Shr} (h : RowsI w base v H S) (k : Nat) (hk : k < S.length) (hb : (hvAt H k).2 = .slice (some ⟨b, 0, none⟩) (vS S k).length c') (h0 : 0 < (vS S k).length) (y : Int) :
    RowsI (w.setCell ⟨b, 0, none⟩ (.int .i64 y)) base v H (S.set k (hS S k, (vS S k).set 0 y)) := by
  have hl := h.len
  have hob : (hvAt H k).2.ownBlock = some b := by rw [hb]; rfl
  have h3 : ∀ j, k ≠ j → hS (S.set k (hS S k, (vS S k).set 0 y)) j = hS S j ∧ vS (S.set k (hS S k, (vS S k).set 0 y)) j = vS S j := fun j hj => sset_other hj
  refine ⟨own_other h.out _ _ (fun b2 e e2 => h.no k hk b hob (by rw [e, e2])), by simp [hl], fun j hj => ?_, fun j hj => ?_, fun i j hi hj hij b e1 e2 => ?_, fun i hi b e1 e2 => ?_⟩
  · simp only [List.length_set] at hj
    by_cases hjk : k = j
    · subst hjk; rw [(sset_at hk).1]; exact h.hold k hk
    · rw [(h3 j hjk).1]; exact h.hold j hj
  · simp only [List.length_set] at hj
    by_cases hjk : k = j
    · subst hjk
      rw [(sset_at hk).2, List.length_set, hb]
      have hr := h.row k hk
      rw [hb] at hr
      exact own_set hr rfl 0 h0 y
    · rw [(h3 j hjk).2]
      exact own_other (h.row j hj) _ _ (fun b2 e e2 => h.ne k j hk hj hjk b hob (by rw [e, e2]))
  · simp only [List.length_set] at hi hj
    exact h.ne i j hi hj hij b e1 e2
  · simp only [List.length_set] at hi
    exact h.no i hi b e1 e2
theorem RowsI.toV {w : World} {base : Nat} {v : Value} {H : List HV} {S : List Shr} (h : RowsI w base v H S) : ∀ k, k < S.length → (hvAt H k).1 = hS S k ∧ ∃ B c, (hvAt H k).2 = .slice B (vS S k).length c ∧ IntsP (fun b => base ≤ b ∧ v.ownBlock ≠ some b) w B c (vS S k) := fun k hk => by
  obtain ⟨B, c', hv, hN, hS', hb⟩ := own_ints (h.row k hk) rfl
  refine ⟨h.hold k hk, B, c', hv, hN, hS', fun b off e => .inr ⟨(hb b off e).1, fun e2 => h.no k hk b ?_ e2⟩⟩
  have hr := h.row k hk
  rw [hv, e] at hr
  rcases hr.2 with ⟨e3, _⟩ | ⟨g, cap, cur, e3, _⟩
  · cases e3
  · injection e3 with e3
    injection e3 with e3
    injection e3 with e3
    rw [hv, e, e3]; rfl
theorem RowsI.rowsV {w : World} {base : Nat} {v : Value} {H : List HV} {S : List Shr} (h : RowsI w base v H S) : RowsV (fun b => base ≤ b) w base v S := ⟨H, h.out, h.len, h.toV⟩
theorem RowsV.val {Q : Nat → Prop} {w : World} {base g n c k : Nat} {L : List Int} {S : List Shr} {B : Option Addr} {c' : Nat} (h : RowsV Q w base (.slice (some ⟨g, 0, none⟩) n c) S) (hn : n = S.length) (hk : k < S.length) (hI : IntsP (fun b => Q b ∧ b ≠ g) w B c' L) :
    RowsV Q (w.setCell ⟨g, k * 2 + 1, none⟩ (.slice B L.length c')) base (.slice (some ⟨g, 0, none⟩) n c) (S.set k (hS S k, L)) := by
  obtain ⟨H, e1, e2, e3⟩ := h.ex
  have hnH : n = H.length := by omega
  subst hnH
  have hkH : k < H.length := by omega
  have hK : Kept (· ≠ g) w (w.setCell ⟨g, k * 2 + 1, none⟩ (.slice B L.length c')) := ⟨by simp [World.setCell], fun b hb _ => Below.heap_setCell w _ _ b hb⟩
  have hob : ∀ b, (Value.slice (some ⟨g, 0, none⟩) H.length c).ownBlock ≠ some b → b ≠ g := fun b hb e => hb (by rw [e]; rfl)
  have hob2 : ∀ b, b ≠ g → (Value.slice (some ⟨g, 0, none⟩) H.length c).ownBlock ≠ some b := fun b hb e => hb (Option.some.inj (show some g = some b from e)).symm
  refine ⟨H.set k ((hvAt H k).1, .slice B L.length c'), e1.set1 k hkH _, by simp [e2], fun j hj => ?_⟩
  simp only [List.length_set] at hj
  obtain ⟨f1, B2, c2, f2, f3⟩ := e3 j hj
  by_cases hjk : k = j
  · subst hjk
    rw [hvAt_set_same _ _ _ hkH, (sset_at hk).1, (sset_at hk).2]
    exact ⟨f1, B, c', rfl, ⟨hI.ints.keep (fun b off e => (hI.off b off e).imp id (fun h => h.2)) hK, hI.ok, fun b off e => (hI.off b off e).imp id (fun h => ⟨h.1, hob2 b h.2⟩)⟩⟩
  · rw [hvAt_set_other _ _ _ _ hjk, (sset_other hjk).1, (sset_other hjk).2]
    exact ⟨f1, B2, c2, f2, ⟨f3.ints.keep (fun b off e => (f3.off b off e).imp id (fun h => hob b h.2)) hK, f3.ok, f3.off⟩⟩
theorem IntsP.drop1 {P : Nat → Prop} {w : World} {b c : Nat} {L : List Int} (h : IntsP P w (some ⟨b, 0, none⟩) c L) (h0 : 0 < L.length) : IntsP P w (if c = 1 then some ⟨b, 0, none⟩ else some ⟨b, 1, none⟩) (c - 1) (L.drop 1) := by
  have hc := h.ok.len
  have hcm := h.ok.cap
  have hl : (L.drop 1).length = L.length - 1 := by simp
  refine ⟨fun k hk => ?_, ⟨by omega, by omega, (fun e => by split at e <;> cases e), .inr (fun a e => by split at e <;> (injection e with e; subst e; rfl))⟩, fun b2 off e => ?_⟩
  · have h1 : c ≠ 1 := by omega
    obtain ⟨b2, off, e, hlt, hcell⟩ := h.ints (k + 1) (by omega)
    injection e with e
    injection e with e1 e2
    subst e1; subst e2
    rw [if_neg h1]
    refine ⟨b, 1, rfl, hlt, ?_⟩
    rw [show 1 + k = 0 + (k + 1) by omega, hcell]
    rw [nth_eq (show k < (L.drop 1).length from hk), nth_eq (show k + 1 < L.length by omega)]
    simp [Nat.add_comm]
  · rcases h.off b 0 rfl with h1 | h1
    · omega
    · refine .inr ?_
      split at e <;> (injection e with e; injection e with e1 e2; subst e1; exact h1)
end Go.Proofs.YtlhipgejiacklaaDoor
