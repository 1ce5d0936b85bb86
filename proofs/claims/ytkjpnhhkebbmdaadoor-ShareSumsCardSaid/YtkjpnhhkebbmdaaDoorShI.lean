/-
  Shares: the secret that shares give, by the document.
-/
import Derived.Test.YtkjpnhhkebbmdaaDoorShH
namespace Go.Proofs.YtkjpnhhkebbmdaaDoor
open Go.RowKit

attribute [local go_sem high] sliced_low
theorem Two.lists {w w' : World} {base lo : Nat} {A B : Option Addr} {c c' : Nat} {X Y : List Nat} (h : Two w w' base lo (.slice A X.length c) X (.slice B Y.length c') Y) :
    NatsAt w' A X ∧ SlOK A c X ∧ NatsAt w' B Y ∧ SlOK B c' Y := by
  obtain ⟨_, _, hv, h1, h2, -⟩ := own_sl h.ox rfl
  injection hv with e1 _ e3
  subst e1; subst e3
  obtain ⟨_, _, hv, h3, h4, -⟩ := own_sl h.oy rfl
  injection hv with e1 _ e3
  subst e1; subst e3
  exact ⟨h1, h2, h3, h4⟩
/-- The value at a place, from points of which the first Need shares are made. -/
theorem itp_any (p n : Nat) (N : List ShN) (i x : Nat) (A B : Option Addr) (ca cb : Nat) (w : World) (hp : PrimeN p) (hp2 : p ≤ 2147483648) (hn : 0 < n) (hl : N.length = n) (hn2 : n ≤ 1048576) (hnd : (hsN N).Nodup)
    (hh : ∀ y ∈ hsN N, y < p) (hc : ∀ y ∈ colN N i, y < p) (hx : x < p) (h : NatsAt w A (hsN N) ∧ SlOK A ca (hsN N) ∧ NatsAt w B (colN N i) ∧ SlOK B cb (colN N i)) :
    Calls Tryd.prog 58 #[.int .i64 p, .slice A (hsN N).length ca, .slice B (colN N i).length cb, .int .i64 x] w (RetB (.tuple #[.int .i64 (wgN p (wsN p (hsN N) x) (colN N i) n : Nat), .int .i64 0]) w) := by
  have hlh : (hsN N).length = n := by rw [hsN_len, hl]
  have hlc : (colN N i).length = n := by rw [colN_len, hl]
  have := refInterpolate_any p A B (hsN N) (colN N i) ca cb x w hp hp2 h.1 h.2.1 h.2.2.1 hh hc (by omega) (by omega) hx
  have he : itE (hsN N) (colN N i) = 0 := by rw [itE_len (by rw [hlh, hlc])]; exact ckE_ok (by omega) hnd
  rw [itV_ok he, he, hlh] at this
  rw [hlh]
  exact this

set_option maxRecDepth 100000 in
set_option maxHeartbeats 4000000 in
theorem refCombine_any {P : Nat → Prop} (p n h : Int) (A : Option Addr) (c : Nat) (S : List Shr) (w : World) (hv : primeV p = validI p) (hS : ShP P w A c S) (hsh : Short S) (hl : S.length ≤ 1048576) :
    Calls Tryd.prog 33 #[planV p n h, .slice A S.length c] w (ListErr (cmL p n h S) (cmE p n h S) w) := by
  have hva := refValid_plan p n h (w.alloc (.cells #[.int .i64 p, .int .i64 n, .int .i64 h] 24)) hv
  have HS := Lib.hid hS
  have HSH := Lib.hid hsh
  clear hS hsh
  cases hp : plB p n h with
  | false =>
    have he := cmE_pl (S := S) hp
    rw [cmL_no (by rw [← he]; decide), ← he]
    rw [hp] at hva
    have HV := Lib.hid hva
    clear hva hp he hv
    go_enter Tryd.func33, Tryd.ntmps33
    go_wp2_with fail
    refine ret_below HV.out ?_
    intro w1 hb1
    go_wp2_with fail
    go_ret2
    exact ListErr.nil 1 (below_trans (below_alloc _ _) hb1)
  | true =>
    rw [hp] at hva
    have HV := Lib.hid hva
    have hpl := of_decide_eq_true hp
    have hpv : primeV p = true := hv.trans hpl.2.2.2.2
    have hgo := fun (W : World) (hb : Below w.heap.size w W) => refGood_any p n h A c S W hpv (HS.out.below hb) HSH.out hl
    cases hq : gdB p h S with
    | false =>
      have he := cmE_gd (n := n) hq
      rw [cmL_no (by rw [← he]; decide), ← he]
      rw [hq] at hgo
      have HG := Lib.hid hgo
      clear hgo hq hp he hv hpv hva hpl
      go_enter Tryd.func33, Tryd.ntmps33
      go_wp2_with fail
      refine ret_below HV.out ?_
      intro w1 hb1
      have hbw := below_trans (below_alloc _ _) hb1
      have hpc := (PlanCell.new (w := w) p n h rfl).below hb1
      have p0 := hpc.c0
      have p1 := hpc.c1
      have p2 := hpc.c2
      go_wp2_with fail
      refine ret_below (HG.out _ hbw) ?_
      intro w2 hb2
      go_wp2_with fail
      go_ret2
      exact ListErr.nil 1 (below_trans hbw hb2)
    | true =>
      rw [hq] at hgo
      have HG := Lib.hid hgo
      by_cases hfew : (S.length : Int) < n
      · have he := cmE_few hp hq hfew
        rw [cmL_no (by rw [← he]; decide), ← he]
        clear hgo hq hp he hv hpv hva hpl
        go_enter Tryd.func33, Tryd.ntmps33
        go_wp2_with fail
        refine ret_below HV.out ?_
        intro w1 hb1
        have hbw := below_trans (below_alloc _ _) hb1
        have hpc := (PlanCell.new (w := w) p n h rfl).below hb1
        have p0 := hpc.c0
        have p1 := hpc.c1
        have p2 := hpc.c2
        have HP := Lib.hid hpc
        go_wp2_with fail
        refine ret_below (HG.out _ hbw) ?_
        intro w2 hb2
        have q1 := (HP.out.below hb2).c1
        go_wp2_with fail
        go_ret2
        exact ListErr.nil 5 (below_trans hbw hb2)
      · have he := (cmE_ok hp hq hfew).symm
        obtain ⟨q, rfl, hqp, hq2⟩ := plan_prime hpl hv
        obtain ⟨l1, l2, l3, l4, -⟩ := hpl
        obtain ⟨n, rfl⟩ := Int.eq_ofNat_of_zero_le (show 0 ≤ n by omega)
        obtain ⟨h, rfl⟩ := Int.eq_ofNat_of_zero_le (show 0 ≤ h by omega)
        obtain ⟨hSN, hg⟩ := gd_nat (gdB_of hq)
        generalize natL S = N at *
        subst hSN
        rw [cmL_ok he, he]
        rw [shL_len] at hfew hl HG ⊢
        have h2 := hqp.1
        have hgT := hg.take n (by omega)
        have htl : (N.take n).length = n := by rw [List.length_take]; omega
        have hvl0 := hg.few 0 (by omega)
        have htv : ∀ k, k < (N.take n).length → (vN (N.take n) k).length = (vN N 0).length := fun k hk => by
          rw [vN_take (by omega)]; exact hg.len k (by omega)
        have HHL := Lib.hid (hgT.hlt (show h < q by omega))
        have HCL := Lib.hid (fun i => hgT.clt (show 1 ≤ q by omega) i)
        have HTV := Lib.hid htv
        have HND := Lib.hid hgT.nd
        have HTL := Lib.hid htl
        have HQP := Lib.hid hqp
        have hpo : ∀ (W : World) (i : Nat), Below w.heap.size w W → i < (vN N 0).length → Calls Tryd.prog 57 #[.slice A n c, .int .i64 i] W (NewTwo (hsN (N.take n)) (colN (N.take n) i) W) := fun W i hb hi => by
          have := points_any A c (N.take n) i W (by rw [← shL_take]; exact (HS.out.below hb).take n) (by omega) (fun k hk => by rw [HTV.out k hk]; exact hi) (by omega)
          rw [htl] at this; exact this
        have HPO := Lib.hid hpo
        have HIT := Lib.hid (fun (i : Nat) (W : World) (X Y : Option Addr) (cx cy : Nat) h => itp_any q n (N.take n) i 0 X Y cx cy W HQP.out (by omega) (by omega) HTL.out (by omega) HND.out HHL.out (HCL.out i) (by omega) h)
        have HCT : Hid (∀ i, i < (vN N 0).length → (combN q n N).take (i + 1) = (combN q n N).take i ++ [wgN q (wsN q (hsN (N.take n)) 0) (colN (N.take n) i) n]) := fun i hi => combN_take hi
        have HCP : Hid (∀ i, i ≤ (vN N 0).length → ((combN q n N).take i).length = i) := fun i hi => combN_part hi
        have HCA : Hid ((combN q n N).take (vN N 0).length = combN q n N) := List.take_of_length_le (by rw [combN_len]; omega)
        have hN0 : 0 < N.length := by omega
        have i1 : (0 : Int) ≤ (n : Int) := by omega
        have i2 : (n : Int) ≤ (c : Int) := by have := HS.out.cap; omega
        have t3 : decide (N.length < n) = false := decide_eq_false (by omega)
        clear hgo hq hp he hv hpv hva hg hgT htv htl hqp hpo hfew
        generalize combN q n N = CB at *
        obtain ⟨l0, hl0⟩ : ∃ l0, l0 = (vN N 0).length := ⟨_, rfl⟩
        rw [← hl0] at hvl0 HPO HCT HCP HCA
        have HL0 := Lib.hid hl0
        clear hl0
        go_enter Tryd.func33, Tryd.ntmps33
        go_wp2_with fail
        refine ret_below HV.out ?_
        intro w1 hb1
        have hbw := below_trans (below_alloc _ _) hb1
        have hpc := (PlanCell.new (w := w) q n h rfl).below hb1
        have p0 := hpc.c0
        have p1 := hpc.c1
        have p2 := hpc.c2
        have HP := Lib.hid hpc
        clear hpc
        go_wp2_with fail
        refine ret_below (HG.out _ hbw) ?_
        intro w2 hb2
        have hbw2 := below_trans hbw hb2
        have HP2 := Lib.hid (HP.out.below hb2)
        have q1 := HP2.out.c1
        clear p0 p1 p2 hb1 hbw hb2 HP
        obtain ⟨b, off, B, c0, rfl, hb0, -, z0, z1, -, -⟩ := (HS.out.below hbw2).nat hN0
        rw [← HL0.out, Nat.zero_mul, Nat.add_zero] at z1
        clear z0
        go_wp2_with fail
        go_loopw [6, 33] (fun o i wr => ∃ j : Nat, j ≤ l0 ∧ i = .int .i64 j ∧ wr.ownsRow w2.heap.size 3 1 o (CB.take j).length (valsN (CB.take j)) ∧ Below w2.heap.size w2 wr) (fun _ i _ => l0 - (intOf i).toNat)
        case atStart => exact ⟨0, Nat.zero_le _, rfl, World.ownsRow_nil _ _ _ _, Below.refl _ _⟩
        case round =>
          obtain ⟨j, hj, rfl, hown, hbr⟩ := hrel
          obtain ⟨OA, oc, rfl, -, -, -⟩ := own_sl hown rfl
          have hsz := hbr.size
          have hbwr := below_trans hbw2 hbr
          by_cases hlt : j < l0
          · have hpr := HP2.out.below hbr
            have q0 := hpr.c0
            have q2 := hpr.c1
            have HPR := Lib.hid hpr
            have HT := Lib.hid (HCT.out j hlt)
            have hln : (CB.take j).length ≤ 2048 := by rw [HCP.out j hj]; omega
            have HOW := Lib.hid hown
            clear hown hpr q1
            generalize CB.take j = O at *
            have HITj := Lib.hid (HIT.out j)
            have HPOj := Lib.hid (fun W hb => HPO.out W j hb hlt)
            generalize colN (N.take n) j = CC at *
            generalize wgN q (wsN q (hsN (N.take n)) 0) CC n = y at *
            generalize hsN (N.take n) = HH at *
            go_wp2_with fail
            refine (HPOj.out _ hbwr).mono ?_
            rintro e w4 ⟨XA, xc, YA, yc, rfl, hT⟩
            have hb4 := hT.below
            have hL := hT.lists
            have HL := Lib.hid hL
            have q4 := (HPR.out.below hb4).c0
            clear hT hL
            go_wp2_with fail
            refine ret_below (HITj.out _ XA YA xc yc HL.out) ?_
            intro w5 hb5
            have hb45 := below_trans hb4 hb5
            have hown5 := own_below HOW.out hb45
            have hz5 := hb45.size
            go_wp2_with (at_builtin; refine app_nats rfl (.tmp 53) (.tmp 55) rfl (base := w2.heap.size) (S := O) (T := [y]) rfl (hown5.alloc _) rfl ((lit1_at _ _ y (by simp)).nats.news rfl) (by simp; omega) (by simp; omega) ?_; intro v6 w6 hown6 hg6 hb6)
            go_roundw
            case rel => exact ⟨j + 1, by omega, by go_num, by rw [HT.out]; exact hown6, hbr.trans ((hb45.mono hsz).trans (below_of_alloc hb6 (by omega)))⟩
            case measure => simp [intOf]; omega
          · obtain rfl : j = l0 := by omega
            rw [HCA.out] at hown
            rw [HCA.out]
            obtain ⟨OA, oc, hv, hO, hOS, hOb⟩ := own_sl hown rfl
            injection hv with hv1 hv2 hv3
            subst hv1; subst hv3
            have HO := Lib.hid (And.intro hO (And.intro hOS hOb))
            have lw2 := hbw2.size
            clear hown hO hOS hOb hv2 q1
            go_wp2_with fail
            go_ret2
            exact ⟨_, _, rfl, HO.out.1, HO.out.2.1, fun b off e => by have := HO.out.2.2 b off e; omega, hbwr⟩
end Go.Proofs.YtkjpnhhkebbmdaaDoor
