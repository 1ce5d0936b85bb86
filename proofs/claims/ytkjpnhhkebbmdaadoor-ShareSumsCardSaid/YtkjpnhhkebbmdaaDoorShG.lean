/-
  Shares: the secret that shares give.
-/
import Derived.Test.YtkjpnhhkebbmdaaDoorShF
namespace Go.Proofs.YtkjpnhhkebbmdaaDoor
open Go.RowKit

attribute [local go_sem high] sliced_low
/-- append of one number in a region that draws its order, its slice just made. -/
theorem step_app_nat {ops : Array Oper} {o : Oper} {a : Act} {K : Act → World → Prop} {Q : Exit → Act → World → Prop} {E : Prop} (W : World) (hgd : o.guard = none) (s x : Operand)
    (ho : o.op = .call { callee := .builtin .append, args := #[s, x], argTypes := #[22, 22] })
    (w5 : World) (base : Nat) (v : Value) (S : List Nat) (y : Nat) (hs : a.eval s = v) (hx : a.eval x = .slice (some ⟨w5.heap.size, 0, none⟩) 1 1)
    (hW : W.heap = (w5.alloc (.cells #[.int .i64 (y : Int)] 3)).heap ∧ W.os = w5.os ∧ W.tape = w5.tape ∧ W.output = w5.output)
    (hown : w5.ownsRow base 3 1 v S.length (valsN S)) (hl : S.length ≤ 4194304) (hbase : base ≤ w5.heap.size)
    (h : ∀ v' w', w'.ownsRow base 3 1 v' (S ++ [y]).length (valsN (S ++ [y])) → Below base w5 w' → K (a.put o.dst v') w') :
    if Region.wanted o (yielded ops a.tmps) = true then Oper.wp Tryd.prog o a W K Q else E := by
  obtain ⟨i0, hi, hz0, hz1, hz2⟩ := info_parts info_int
  have hownW : W.ownsRow base 3 1 v S.length (valsN S) := by
    obtain ⟨h1, h2⟩ := own_below hown (below_alloc w5 (.cells #[.int .i64 (y : Int)] 3))
    refine ⟨h1, ?_⟩
    rw [hW.1]; exact h2
  have hsz : W.heap.size = w5.heap.size + 1 := by rw [hW.1]; simp
  have hcell : ∀ x, W.cell? x = (w5.alloc (.cells #[.int .i64 (y : Int)] 3)).cell? x := fun x => by unfold World.cell?; rw [hW.1]
  refine step_append_lies _ hgd s x 22 ho base 3 i0 _ 1 8 Tryd.underlying22 hi hz0 hz1 hz2 rfl (by omega) v S.length (valsN S) hs hownW ⟨w5.heap.size, 0, none⟩ 1 1 (valsN [y]) hx rfl (fun j u hu => (hcell _).trans ((lit1_nats w5 y).nats.news rfl j u hu)) (valsN_one [y]) (by omega) (by unfold maxLen; omega) (by omega) (by omega) _ rfl ?_
  intro g cap w' ho' hg _ _
  have hbW : Below base w5 W := ⟨hW.2.1, hW.2.2.1, hW.2.2.2, by omega, fun k hk => by rw [hW.1]; exact heap_alloc_old w5 _ (by omega)⟩
  refine h _ w' ?_ (hbW.trans ((Below.refl _ _).grown hg (by omega) (fun k hk => by have := (hown.lt k hk).1; omega)))
  rw [List.length_append]; simpa [valsN] using ho'
theorem combN_part {p n : Nat} {N : List ShN} {i : Nat} (h : i ≤ (vN N 0).length) : ((combN p n N).take i).length = i := by rw [List.length_take, combN_len]; omega

set_option maxRecDepth 100000 in
set_option maxHeartbeats 4000000 in
theorem combine_any {P : Nat → Prop} (p n h : Int) (A : Option Addr) (c : Nat) (S : List Shr) (w : World) (hv : primeV p = validI p) (hB : Bases w) (hS : ShP P w A c S) (hsh : Short S) (hl : S.length ≤ 1048576) :
    Calls Tryd.prog 27 #[planV p n h, .slice A S.length c] w (ListErr (cmL p n h S) (cmE p n h S) w) := by
  have hck := check_share p n h A c S (w.alloc (.cells #[.int .i64 p, .int .i64 n, .int .i64 h] 24)) (hB.keep (below_alloc _ _)) (hS.below (below_alloc _ _)) hsh hl
  have HS := Lib.hid hS
  clear hS hB
  by_cases he : cmE p n h S = 0
  · obtain ⟨e1, e2, e3⟩ := cmE_zero he
    have hpl := of_decide_eq_true e1
    obtain ⟨q, rfl, hq, hq2⟩ := plan_prime hpl hv
    obtain ⟨l1, l2, l3, l4, -⟩ := hpl
    obtain ⟨n, rfl⟩ := Int.eq_ofNat_of_zero_le (show 0 ≤ n by omega)
    obtain ⟨h, rfl⟩ := Int.eq_ofNat_of_zero_le (show 0 ≤ h by omega)
    obtain ⟨hSN, hg⟩ := gd_nat (gdB_of e2)
    rw [he] at hck
    have HCK := Lib.hid hck
    generalize natL S = N at *
    subst hSN
    rw [shL_len] at HCK e3 hl ⊢
    have hcm := cmL_ok he
    rw [hcm, he]
    have h2 := hq.1
    have hgT := hg.take n (by omega)
    have htl : (N.take n).length = n := by rw [List.length_take]; omega
    have hvl0 := hg.few 0 (by omega)
    have htv : ∀ k, k < (N.take n).length → (vN (N.take n) k).length = (vN N 0).length := fun k hk => by
      rw [vN_take (by omega)]; exact hg.len k (by omega)
    have HHL := Lib.hid (hgT.hlt (show h < q by omega))
    have HCL := Lib.hid (fun i => hgT.clt (show 1 ≤ q by omega) i)
    have HTV := Lib.hid htv
    have hnd := hgT.nd
    have hck0 : ckE (hsN (N.take n)) = 0 := ckE_ok (by rw [hsN_len]; omega) hnd
    have hws : ∀ (W : World) (X : Option Addr) (cx : Nat), NatsAt W X (hsN (N.take n)) → Calls Tryd.prog 51 #[.int .i64 q, .slice X (hsN (N.take n)).length cx, .int .i64 0] W (ListErr (wsN q (hsN (N.take n)) 0) 0 W) := fun W X cx hX => by
      have := weights_any q X (hsN (N.take n)) cx 0 W h2 (by omega) hX HHL.out (by rw [hsN_len]; omega) (by omega)
      rw [wsR_ok hck0, hck0] at this
      exact this
    have HWS := Lib.hid hws
    have hho : ∀ (W : World), Below w.heap.size w W → Calls Tryd.prog 52 #[.slice A n c] W (NewList (hsN (N.take n)) W) := fun W hb => by
      have := holders_any A c (N.take n) W (by rw [← shL_take]; exact (HS.out.below hb).take n) (by omega)
      rw [htl] at this; exact this
    have hva : ∀ (W : World) (i : Nat), Below w.heap.size w W → i < (vN N 0).length → Calls Tryd.prog 54 #[.slice A n c, .int .i64 i] W (NewList (colN (N.take n) i) W) := fun W i hb hi => by
      have := values_any A c (N.take n) i W (by rw [← shL_take]; exact (HS.out.below hb).take n) (by omega) (fun k hk => by rw [HTV.out k hk]; exact hi) (by omega)
      rw [htl] at this; exact this
    have hwl : (wsN q (hsN (N.take n)) 0).length = n := by rw [wsN_len, hsN_len, htl]
    have hcl : ∀ i, (colN (N.take n) i).length = n := fun i => by rw [colN_len, htl]
    have HWL := Lib.hid hwl
    have HCLN := Lib.hid hcl
    have HHO := Lib.hid hho
    have HVA := Lib.hid hva
    have HWSL := Lib.hid (wsN_lt (show 1 ≤ q by omega) (hsN (N.take n)) 0)
    have HCT : Hid (∀ i, i < (vN N 0).length → (combN q n N).take (i + 1) = (combN q n N).take i ++ [wgN q (wsN q (hsN (N.take n)) 0) (colN (N.take n) i) n]) := fun i hi => combN_take hi
    have HCP : Hid (∀ i, i ≤ (vN N 0).length → ((combN q n N).take i).length = i) := fun i hi => combN_part hi
    have HCA : Hid ((combN q n N).take (vN N 0).length = combN q n N) := List.take_of_length_le (by rw [combN_len]; omega)
    have hN0 : 0 < N.length := by omega
    have i1 : (0 : Int) ≤ (n : Int) := by omega
    have i2 : (n : Int) ≤ (c : Int) := by have := HS.out.cap; omega
    have i3 : (0 : Int) < (n : Int) := by omega
    clear hck e1 e2 he hv hg hgT htv hck0 hws hnd htl hho hva hwl hcl hcm hsh
    generalize wsN q (hsN (N.take n)) 0 = WS at *
    generalize hsN (N.take n) = HH at *
    generalize combN q n N = CB at *
    obtain ⟨l0, hl0⟩ : ∃ l0, l0 = (vN N 0).length := ⟨_, rfl⟩
    rw [← hl0] at hvl0 HVA HCT HCP HCA
    have HL0 := Lib.hid hl0
    go_enter Tryd.func27, Tryd.ntmps27
    go_wp2_with fail
    refine ret_below HCK.out ?_
    intro w1 hb1
    have hbw := below_trans (below_alloc _ _) hb1
    have hpl := (PlanCell.new (w := w) q n h rfl).below hb1
    have p0 := hpl.c0
    have p1 := hpl.c1
    have HP := Lib.hid hpl
    have lp := hpl.lt
    clear hpl hb1 hl0
    go_wp2_with fail
    go_region_held3 (fun w' => w'.cell? ⟨w.heap.size, 0, none⟩ = some (.int .i64 (q : Int))) (first | go_keep)
      (first
        | (go_at_call 52; refine (HHO.out _ (by exact hbw.drew)).mono ?_; intro e w2 hnl; obtain ⟨X, cx, rfl, hX, -, -, hb2⟩ := hnl.open_; have k2 := (hb2.cell (p := ⟨w.heap.size, 0, none⟩) lp).trans p0)
        | (go_at_call 51; refine (HWS.out _ X cx (by exact hX)).mono ?_; rintro e w3 ⟨Y, cy, rfl, hY, -, -, hb3⟩; have k3 := (hb3.cell (p := ⟨w.heap.size, 0, none⟩) (Nat.lt_of_lt_of_le lp hb2.size)).trans k2))
    have hb13 : Below w1.heap.size w1 w3 := below_trans (below_undrew1 hb2) hb3
    have hbw3 := below_trans hbw hb13
    have HY := Lib.hid hY
    have HP3 := Lib.hid (HP.out.below hb13)
    have lp3 := hb13.size
    have lw3 := hbw3.size
    clear hX hY hb2 hb3 k2 k3 p0 p1 HHO HWS HCK hbw hb13
    obtain ⟨b, off, B, c0, rfl, hb0, -, z0, z1, -, -⟩ := (HS.out.below hbw3).nat hN0
    rw [← HL0.out, Nat.zero_mul, Nat.add_zero] at z1
    clear z0
    have hwg : ∀ (j : Nat) (W : World) (V : Option Addr) (cv : Nat), NatsAt W Y WS → NatsAt W V (colN (N.take n) j) → Calls Tryd.prog 53 #[.int .i64 q, .slice Y WS.length cy, .slice V (colN (N.take n) j).length cv] W (Ret (.int .i64 (wgN q WS (colN (N.take n) j) n : Nat)) W) := fun j W V cv h1 h2 => by
      have := weigh_any q Y V WS (colN (N.take n) j) cy cv W (by omega) (by omega) h1 h2 HWSL.out (HCL.out j) (by rw [HWL.out, HCLN.out]; omega) (by rw [HCLN.out]; omega)
      rw [HWL.out] at this ⊢; exact this
    have HWG := Lib.hid hwg
    clear hwg
    go_wp2_with fail
    go_loopw [9, 34] (fun o i wr => ∃ j : Nat, j ≤ l0 ∧ i = .int .i64 j ∧ wr.ownsRow w3.heap.size 3 1 o (CB.take j).length (valsN (CB.take j)) ∧ Below w3.heap.size w3 wr) (fun _ i _ => l0 - (intOf i).toNat)
    case atStart => exact ⟨0, Nat.zero_le _, rfl, World.ownsRow_nil _ _ _ _, Below.refl _ _⟩
    case round =>
      obtain ⟨j, hj, rfl, hown, hbr⟩ := hrel
      obtain ⟨OA, oc, rfl, -, -, -⟩ := own_sl hown rfl
      have hsz := hbr.size
      have hbwr := below_trans hbw3 hbr
      by_cases hlt : j < l0
      · have hpr := HP3.out.below hbr
        have q0 := hpr.c0
        have lpr := hpr.lt
        have HT := Lib.hid (HCT.out j hlt)
        have hln : (CB.take j).length ≤ 2048 := by rw [HCP.out j hj]; omega
        have HOW := Lib.hid hown
        have HYr := Lib.hid (HY.out.below hbr)
        clear hown hpr
        generalize CB.take j = O at *
        have HWGj := Lib.hid (HWG.out j)
        have HVAj := Lib.hid (fun W hb => HVA.out W j hb hlt)
        generalize colN (N.take n) j = CC at *
        generalize wgN q WS CC n = y at *
        go_wp2_with fail
        go_region_held3 (fun w' => w'.cell? ⟨w.heap.size, 0, none⟩ = some (.int .i64 (q : Int))) (first | go_keep)
          (first
            | (go_at_call 54; refine (HVAj.out _ (by exact hbwr.drew)).mono ?_; intro e w4 hnl; obtain ⟨V, cv, rfl, hV, -, -, hb4⟩ := hnl.open_; have k4 := (hb4.cell (p := ⟨w.heap.size, 0, none⟩) lpr).trans q0)
            | (go_at_call 53; refine ret_pure (HWGj.out _ V cv (by exact HYr.out.below (below_undrew1 hb4)) (by exact hV)) ?_)
            | (refine step_app_nat _ rfl (.tmp 37) (.tmp 45) rfl w4 w3.heap.size (.slice OA O.length oc) O y rfl rfl ⟨rfl, rfl, rfl, rfl⟩ (own_below HOW.out (below_undrew1 hb4)) (by omega) (by have := (below_undrew1 hb4).size; omega) ?_; intro v5 w5 hown5 hb5; have k5 := (hb5.cell (p := ⟨w.heap.size, 0, none⟩) (Nat.lt_of_lt_of_le lp lp3)).trans k4))
        all_goals
          go_wp2_with fail
          go_roundw
          case rel => exact ⟨j + 1, by omega, by go_num, by rw [HT.out]; exact hown5, (hbr.trans ((below_undrew1 hb4).mono hsz)).trans hb5⟩
          case measure => simp [intOf]; omega
      · obtain rfl : j = l0 := by omega
        rw [HCA.out] at hown
        rw [HCA.out]
        obtain ⟨OA, oc, hv, hO, hOS, hOb⟩ := own_sl hown rfl
        injection hv with hv1 hv2 hv3
        subst hv1; subst hv3
        have HO := Lib.hid (And.intro hO (And.intro hOS hOb))
        clear hown hO hOS hOb hv2
        go_wp2_with fail
        go_ret2
        exact ⟨_, _, rfl, HO.out.1, HO.out.2.1, fun b off e => by have := HO.out.2.2 b off e; omega, hbwr⟩
  · have hcm := cmL_no he
    rw [hcm]
    clear hcm
    generalize cmE p n h S = er at *
    have HCK := Lib.hid hck
    have t1 : ((er : Int) != 0) = true := by simp [he]
    clear hck he hv
    go_enter Tryd.func27, Tryd.ntmps27
    go_wp2_with fail
    refine ret_below HCK.out ?_
    intro w1 hb1
    go_wp2_with fail
    go_ret2
    exact ListErr.nil er (below_trans (below_alloc _ _) hb1)
end Go.Proofs.YtkjpnhhkebbmdaaDoor
