/-
  ShareSums: the walk.
-/
import Derived.Test.YtkjpnhhkebbmdaaDoorShZ
namespace Go.Proofs.YtkjpnhhkebbmdaaDoor
open Go.RowKit

attribute [local go_sem high] sliced_low
theorem add_at (p : Nat) (n h x : Int) (B B' : Option Addr) (L M : List Nat) (cb cb' k k' c : Nat) (w : World) (hp1 : 1 ≤ p) (hp2 : p ≤ 2147483648) (hv : primeV p = validI p) (hB : Bases w) (hpl : plB p n h = true) (hx1 : 1 ≤ x) (hx2 : x ≤ h) (hk : k = L.length) (hk' : k' = L.length) (hM : M.length = L.length) (hLp : ∀ y ∈ L, y < p) (hI : NatsAt w B L) (hJ : NatsAt w B' (linN p [] M c)) (hl : k ≤ 1048576) :
    Calls Tryd.prog 35 #[planV p n h, shV x (.slice B k cb), shV x (.slice B' k' cb')] w (NewShrE x (sumV p L M c) 0 w) := by
  have e : (linN p [] M c).length = L.length := by rw [linN_len]; simp [hM]
  have hkk : k' = k := hk'.trans hk.symm
  subst hkk
  refine addS_ok p n h x B B' L (linN p [] M c) cb cb' k' w hp1 hp2 hv hB hpl ?_ ?_ hk (hk.trans e.symm) hLp (linN_lt hp1) hI.ints hJ.ints hl
  · rw [← stB_in hx1 hx2]; exact nat_inside hLp
  · rw [← stB_in hx1 hx2]; exact nat_inside (linN_lt hp1)
set_option maxRecDepth 100000 in
set_option maxHeartbeats 4000000 in
theorem shareSums_walk (A0 : Option Addr) (L0 : List Int) (c0 : Nat) (cc : Int) (w : World) (hB : Bases w) (hl0 : L0.length ≤ maxLen) (hI0 : IntsAt w A0 L0) (_ : ∀ n ∈ L0, -9223372036854775808 ≤ n ∧ n ≤ 9223372036854775807) (_ : -9223372036854775808 ≤ cc ∧ cc ≤ 9223372036854775807) :
    Calls Tryd.prog 7 #[.slice A0 L0.length c0, .int .i64 cc] w (RetB (.bool true) w) := by
  have HB := Lib.hid hB
  clear hB
  by_cases hlight : (L0.length : Int) ≤ 500
  · have hL := light_any A0 L0.length c0 w
    rw [decide_eq_true hlight] at hL
    have HLt := Lib.hid hL
    clear hL hlight
    go_enter Tryd.func7, Tryd.ntmps7
    go_wp2_with fail
    refine ret_pure HLt.out ?_
    clear HLt
    go_wp2_with fail
    refine (roll_any A0 L0 c0 _ hl0 hI0).mono ?_
    rintro e w1 ⟨D, rfl, hDs, hD, hb1⟩
    have hE1 : Env w w1 D L0 := ⟨hD, hDs, hb1⟩
    clear hI0 hD hb1
    go_wp2_with fail
    refine (prime_any D L0 _ hE1.dice).mono ?_
    rintro e w2 ⟨p, rfl, hpp, hp5, -, hD2, hg2⟩
    have hE2 := hE1.next hD2 hg2
    have h2 := hpp.1
    have h1 : 1 ≤ p := by omega
    have hp2 : p ≤ 2147483648 := by omega
    have HPP := Lib.hid hpp
    clear hg2 hD2 hE1 hpp
    go_wp2_with fail
    refine (plan_any D _ p _ hE2.dice h2 hp2).mono ?_
    rintro e w3 ⟨n, h, R3, rfl, ⟨hn1, hnh, hh7, hhp⟩, hD3, hg3⟩
    have hE3 := hE2.next hD3 hg3
    have HPN := Lib.hid (PlanN.mk' HPP.out (by omega) hn1 hnh hh7 hhp)
    clear hD3 hg3 hE2
    go_wp2_with fail
    refine gen_calls fun w4 hw4 => ?_
    have hpc : PlanCell w4 w3.heap.size p n h := by rw [hw4]; exact PlanCell.new _ _ _ rfl
    have hE4 : Env w w4 D R3 := hE3.mv (by rw [hw4]; exact below_alloc _ _)
    have hxD : w3.heap.size ≠ D := by have := hE3.lt; omega
    have hlx := hpc.lt
    have p0 := hpc.c0
    have p1 := hpc.c1
    have p2 := hpc.c2
    have HPC := Lib.hid hpc
    generalize w3.heap.size = px at *
    clear hw4 hE3 hpc
    refine (next_nat D _ 3 _ hE4.dice (by omega) (by omega)).mono ?_
    rintro e w5 ⟨m0, rfl, hm0, hD5, hg5⟩
    have hE5 := hE4.next hD5 hg5
    have hP5 := HPC.out.mv hg5 hxD
    have HP5 := Lib.hid hP5
    have q0 := hP5.c0
    have q1 := hP5.c1
    have q2 := hP5.c2
    clear hD5 hg5 hE4 HPC hP5 p0 p1 p2
    go_wp2_with fail
    obtain ⟨q, hq⟩ : ∃ q : Nat, 1 + (m0 : Int) = (q : Int) := ⟨1 + m0, by omega⟩
    rw [hq]
    have hq1 : 1 ≤ q := by omega
    have hq2 : q ≤ 3 := by omega
    clear hq hm0
    go_region_held3 (fun w' => w'.cell? ⟨px, 0, none⟩ = some (.int .i64 (p : Int)) ∧ w'.cell? ⟨px, 1, none⟩ = some (.int .i64 (n : Int)) ∧ w'.cell? ⟨px, 2, none⟩ = some (.int .i64 (h : Int))) (first | go_keep)
      (first
        | (go_at_call 16; have hcut := hE6; refine (elements_any D _ p q _ (by exact hE6.dice) h1 hp2 (by omega)).mono ?_; intro e w7 he; obtain ⟨SB, sbc, sb, R7, rfl, hbl, hbp, hSB, hD7, hg7⟩ := elems_held (by exact hE6.lt) he; have Hhbl := Lib.hid hbl; clear hbl; have hE7 := hE6.next hD7 hg7; have HP7 := Lib.hid (HP6.out.mv hg7 hxD); have s0 := HP7.out.c0; have s1 := HP7.out.c1; have s2 := HP7.out.c2; have HSA7 := Lib.hid (HSA.out.mv hg7))
        | (go_at_call 16; refine (elements_any D _ p q _ (by exact hE5.dice) h1 hp2 (by omega)).mono ?_; intro e w6 he; obtain ⟨SA, sac, sa, R6, rfl, hal, hap, hSA, hD6, hg6⟩ := elems_held (by exact hE5.lt) he; have Hhal := Lib.hid hal; clear hal; have hE6 := hE5.next hD6 (grown_undrew hg6); have HP6 := Lib.hid (HP5.out.mv (grown_undrew hg6) hxD); have r0 := HP6.out.c0; have r1 := HP6.out.c1; have r2 := HP6.out.c2; have HSA := Lib.hid hSA))
    have HSA := Lib.hid HSA7.out
    have HSB := Lib.hid hSB
    have HAP := Lib.hid hap
    have HBP := Lib.hid hbp
    have hE := hE7
    have HP := HP7
    have HLA := Hhal
    have HLB := Hhbl
    have hsa1 : sa.length ≤ 3 := by have := HLA.out; omega
    have hsb1 : sb.length ≤ 3 := by have := HLB.out; omega
    have l7 := HP.out.lt
    clear he hSA hSB hap hbp hD6 hg6 hD7 hg7 hE6 hE5 hE7 HP5 HP6 HP7 HSA7 q0 q1 q2 r0 r1 r2 Hhal Hhbl
    go_wp2_with fail
    obtain ⟨rl, hrl⟩ : ∃ rl, rl = q * (n - 1) := ⟨_, rfl⟩
    have hrl2 : rl ≤ 1048576 := by rw [hrl]; have := Nat.mul_le_mul hq2 (show n - 1 ≤ 7 by omega); omega
    have HRN := Lib.hid (fun (W : World) => random_nat p n h q rl W hrl hn1 (by omega) (by omega))
    have HRLx := Lib.hid (show rl = sa.length * (n - 1) by rw [HLA.out]; exact hrl)
    have HRLy := Lib.hid (show rl = sb.length * (n - 1) by rw [HLB.out]; exact hrl)
    clear hrl
    go_region_held3 (fun w' => w'.cell? ⟨px, 0, none⟩ = some (.int .i64 (p : Int)) ∧ w'.cell? ⟨px, 1, none⟩ = some (.int .i64 (n : Int)) ∧ w'.cell? ⟨px, 2, none⟩ = some (.int .i64 (h : Int))) (first | go_keep)
      (first
        | (go_at_call 23; refine ret_below (HRN.out _) ?_; intro wax hb; have hbax : Below w7.heap.size w7 wax := (below_undrew1 hb); have hEax := hE.mv hbax; have HPax := Lib.hid (HP.out.below hbax); have qax0 := HPax.out.c0; have qax1 := HPax.out.c1; have qax2 := HPax.out.c2)
        | (go_at_call 16; refine (elements_any D _ p rl _ hEax.dice h1 hp2 hrl2).mono ?_; intro e wbx he; obtain ⟨RAx, rcx, ranx, R8x, rfl, hrnlx, hrpx, hRx, hDbx, hgbx⟩ := elems_held hEax.lt he; have HRNLx := Lib.hid hrnlx; clear hrnlx; have hEbx := hEax.next hDbx hgbx; have HPbx := Lib.hid (HPax.out.mv hgbx hxD); have qbx0 := HPbx.out.c0; have qbx1 := HPbx.out.c1; have qbx2 := HPbx.out.c2; have HSECbx := Lib.hid ((HSA.out.below hbax).mv hgbx))
        | (go_at_call 20; refine (deal_made HPN.out (hEbx.bases HB.out) HSECbx.out.nats hRx.nats hRx.ok (by omega) HAP.out hrpx (by exact HRNLx.out.trans HRLx.out) (by have := HRNLx.out; omega) rfl rfl).mono ?_; rintro e wcx ⟨NAx, ncx, rfl, hNx, hbcx⟩; have hEcx := hEbx.mv hbcx; have HPcx := Lib.hid (HPbx.out.below hbcx); have qcx0 := HPcx.out.c0; have qcx1 := HPcx.out.c1; have qcx2 := HPcx.out.c2))
    have hmx : sa.length ≤ 2048 := by omega
    have HMDx := Lib.hid (deal_Made HPN.out HAP.out hrpx)
    have HNx := Lib.hid (hNx.away hEbx.lt)
    have HSA9 := Lib.hid (HSECbx.out.below hbcx)
    have HSB9 := Lib.hid (((HSB.out.below hbax).mv hgbx).below hbcx)
    have lx := HPcx.out.lt
    clear he hRx hDbx hgbx hbax hbcx hEax hEbx hE hNx HPax HPbx HP HSA HSB HSECbx HRNLx HRLx hrpx qax0 qax1 qax2 qbx0 qbx1 qbx2 s0 s1 s2 hb
    go_wp2_with fail
    go_region_held3 (fun w' => w'.cell? ⟨px, 0, none⟩ = some (.int .i64 (p : Int)) ∧ w'.cell? ⟨px, 1, none⟩ = some (.int .i64 (n : Int)) ∧ w'.cell? ⟨px, 2, none⟩ = some (.int .i64 (h : Int))) (first | go_keep)
      (first
        | (go_at_call 23; refine ret_below (HRN.out _) ?_; intro way hb; have hbay : Below wcx.heap.size wcx way := (below_undrew1 hb); have hEay := hEcx.mv hbay; have HPay := Lib.hid (HPcx.out.below hbay); have qay0 := HPay.out.c0; have qay1 := HPay.out.c1; have qay2 := HPay.out.c2)
        | (go_at_call 16; refine (elements_any D _ p rl _ hEay.dice h1 hp2 hrl2).mono ?_; intro e wby he; obtain ⟨RAy, rcy, rany, R8y, rfl, hrnly, hrpy, hRy, hDby, hgby⟩ := elems_held hEay.lt he; have HRNLy := Lib.hid hrnly; clear hrnly; have hEby := hEay.next hDby hgby; have HPby := Lib.hid (HPay.out.mv hgby hxD); have qby0 := HPby.out.c0; have qby1 := HPby.out.c1; have qby2 := HPby.out.c2; have HSECby := Lib.hid ((HSB9.out.below hbay).mv hgby))
        | (go_at_call 20; refine (deal_made HPN.out (hEby.bases HB.out) HSECby.out.nats hRy.nats hRy.ok (by omega) HBP.out hrpy (by exact HRNLy.out.trans HRLy.out) (by have := HRNLy.out; omega) rfl rfl).mono ?_; rintro e wcy ⟨NAy, ncy, rfl, hNy, hbcy⟩; have hEcy := hEby.mv hbcy; have HPcy := Lib.hid (HPby.out.below hbcy); have qcy0 := HPcy.out.c0; have qcy1 := HPcy.out.c1; have qcy2 := HPcy.out.c2))
    have HMDy := Lib.hid (deal_Made HPN.out HBP.out hrpy)
    have HNy := Lib.hid (hNy.away hEby.lt)
    have HNx9 := Lib.hid (((HNx.out.below hbay).mv hgby).below hbcy)
    have HSA := Lib.hid (((HSA9.out.below hbay).mv hgby).below hbcy)
    have HSB := Lib.hid (HSECby.out.below hbcy)
    have hE := hEcy
    have HP := HPcy
    have lx := HPcy.out.lt
    clear he hRy hDby hgby hbay hbcy hEay hEby hEcx hEcy hNy HPay HPby HPcx HPcy HSA9 HSB9 HSECby HRNLy HRLy HNx hrpy qay0 qay1 qay2 qby0 qby1 qby2 qcx0 qcx1 qcx2 hb HRN hrl2
    go_wp2_with fail
    refine ret_pure (mod_any _ _ _ (by omega)) ?_
    obtain ⟨z, hz, hzp⟩ : ∃ z : Nat, modI cc (p : Int) = (z : Int) ∧ z < p := by have := modI_range cc p (by omega); exact ⟨(modI cc p).toNat, by omega, by omega⟩
    rw [hz]
    clear hz
    go_wp2_with fail
    have hDB := hE.lt
    have HE := Lib.hid hE
    obtain ⟨N, hN⟩ : ∃ N, N = dealN p n h sa ranx := ⟨_, rfl⟩
    obtain ⟨M, hM⟩ : ∃ M, M = dealN p n h sb rany := ⟨_, rfl⟩
    rw [← hN] at HNx9 HMDx
    rw [← hM] at HNy HMDy
    have hNl : N.length = h := by rw [hN]; exact deal_len _ _ _ _ _
    have hMl : M.length = h := by rw [hM]; exact deal_len _ _ _ _ _
    have HRN := Lib.hid (fun k (hk : k < h) => hN ▸ deal_row (n := n) (sec := sa) (ran := ranx) h1 hk)
    have HRM := Lib.hid (fun k (hk : k < h) => hM ▸ deal_row (n := n) (sec := sb) (ran := rany) h1 hk)
    have HNl := Lib.hid hNl
    have HMl := Lib.hid hMl
    clear hN hM hE hNl hMl
    have HN0 := Lib.hid (HNx9.out.mono (Q := fun b => b < wcy.heap.size) (fun b hb _ => hb))
    have HM0 := Lib.hid (HNy.out.mono (Q := fun b => b < wcy.heap.size) (fun b hb _ => hb))
    go_loopw [15, 89] (fun s i wr => ∃ (k : Nat), k ≤ h ∧ i = .int .i64 k ∧ RowsV (fun b => wcy.heap.size ≤ b) wr wcy.heap.size s (shL ((addT p z N M).take k)) ∧ Below wcy.heap.size wcy wr) (fun _ i _ => h - (intOf i).toNat)
    case atStart => exact ⟨0, Nat.zero_le _, rfl, RowsV.nil _ _ _, Below.refl _ _⟩
    case round =>
      obtain ⟨k, hk, rfl, hR, hbr⟩ := hrel
      obtain ⟨OA, oc, hv, hRd⟩ := hR.read
      have hlk : (shL ((addT p z N M).take k)).length = k := by rw [shL_len, List.length_take, addT_len, HNl.out]; omega
      rw [hlk] at hv
      subst hv
      have hsz := hbr.size
      have hEr := HE.out.app hDB hbr
      have hPr := HP.out.keep (hbr.block px lx)
      have y0 := hPr.c0
      have y1 := hPr.c1
      have y2 := hPr.c2
      have HPr := Lib.hid hPr
      clear hPr
      have HR := Lib.hid hR
      have HLK := Lib.hid hlk
      have HRd := Lib.hid hRd
      clear hR hlk hRd
      by_cases hlt : k < h
      · obtain ⟨b1, o1, B1, c1, rfl, hb1, hb1B, x0, x1, hX, -⟩ := (HN0.out.keep (Kept.app hbr)).nat (show k < N.length by rw [HNl.out]; exact hlt)
        obtain ⟨b2, o2, B2, c2, rfl, hb2, hb2B, u0, u1, hU, -⟩ := (HM0.out.keep (Kept.app hbr)).nat (show k < M.length by rw [HMl.out]; exact hlt)
        obtain ⟨eN, lN, pN⟩ := HRN.out k hlt
        obtain ⟨eM, lM, pM⟩ := HRM.out k hlt
        have HTK := Lib.hid (addT_take (p := p) (c := z) (N := N) (M := M) (show k < N.length by rw [HNl.out]; exact hlt))
        rw [eN] at x0 HTK
        rw [eM] at u0
        generalize hL : vN N k = L at *
        generalize hK : vN M k = K at *
        clear hL hK eN eM
        obtain ⟨x, hx⟩ : ∃ x, x = k + 1 := ⟨_, rfl⟩
        rw [← hx] at x0 u0 HTK
        have hx1 : 1 ≤ x := by omega
        have hx2 : x ≤ h := by omega
        have HPL := Lib.hid pN
        have HPM := Lib.hid pM
        have HX := Lib.hid hX
        have HU := Lib.hid hU
        have HKL := Lib.hid (show K.length = L.length by have := HLA.out; have := HLB.out; omega)
        have hLq : L.length ≤ 1048576 := by omega
        clear pN pM hX hU lM lN
        have HXK := Lib.hid hx
        clear hx
        go_wp2_with fail
        have lxr : px < wr.heap.size := by omega
        go_region_held3 (fun w' => w'.cell? ⟨px, 0, none⟩ = some (.int .i64 (p : Int)) ∧ w'.cell? ⟨px, 1, none⟩ = some (.int .i64 (n : Int)) ∧ w'.cell? ⟨px, 2, none⟩ = some (.int .i64 (h : Int)) ∧ w'.cell? ⟨b1, o1 + k * 2, none⟩ = some (.int .i64 (x : Int)) ∧ w'.cell? ⟨b1, o1 + k * 2 + 1, none⟩ = some (.slice B1 L.length c1) ∧ w'.cell? ⟨b2, o2 + k * 2, none⟩ = some (.int .i64 (x : Int)) ∧ w'.cell? ⟨b2, o2 + k * 2 + 1, none⟩ = some (.slice B2 K.length c2)) (first | (go_keep; done) | (exact ⟨keep_set2 (by dsimp only; omega) t0, keep_set2 (by dsimp only; omega) t1, keep_set2 (by dsimp only; omega) t2, keep_set2 (by dsimp only; omega) t3, keep_set2 (by dsimp only; omega) t4, keep_set2 (by dsimp only; omega) t5, keep_set2 (by dsimp only; omega) t6⟩))
          (first
            | (go_at_call 37; refine (scale_any p n h x B2 K c2 z _ h1 hp2 (HU.out.below (by (repeat (first | exact bl_refl _ | exact hbd' | apply bl_drew | apply bl_alloc)))) HPM.out hzp (by have := HKL.out; omega)).mono ?_; rintro e wd ⟨SAd, scd, rfl, hSd, hOKd, hOffd, hbd⟩; (first
                | (have hbd' : Below wr.heap.size wr wd := below_undrew1 hbd)
                | (have hbdA : Below (wr.alloc shO).heap.size (wr.alloc shO) wd := below_undrew1 hbd; have hbd' : Below wr.heap.size wr wd := below_trans (below_alloc _ _) hbdA; have HRz := Lib.hid ((ShCell.new (w := wr) 0 (.slice none 0 0) rfl).below hbdA); have hgz : wr.heap.size ≤ wr.heap.size := Nat.le_refl _; have fz0 := HRz.out.frozen 0; have fz1 := HRz.out.frozen 1; have rz0 := HRz.out.c0; have rz1 := HRz.out.c1)); have zd := hbd'.size; have s0 := (hbd'.cell (p := ⟨px, 0, none⟩) lxr).trans y0; have s1 := (hbd'.cell (p := ⟨px, 1, none⟩) lxr).trans y1; have s2 := (hbd'.cell (p := ⟨px, 2, none⟩) lxr).trans y2; have s3 := (hbd'.cell (p := ⟨b1, o1 + k * 2, none⟩) hb1).trans x0; have s4 := (hbd'.cell (p := ⟨b1, o1 + k * 2 + 1, none⟩) hb1).trans x1; have s5 := (hbd'.cell (p := ⟨b2, o2 + k * 2, none⟩) hb2).trans u0; have s6 := (hbd'.cell (p := ⟨b2, o2 + k * 2 + 1, none⟩) hb2).trans u1)
            | (go_at_call 35; refine (add_at p n h x B1 SAd L K c1 scd _ _ z _ h1 hp2 HPN.out.pv ((hEr.mv (by (repeat (first | exact bl_refl _ | exact hbd' | apply bl_drew | apply bl_alloc)))).bases HB.out) HPN.out.pl (by omega) (by omega) rfl (by rw [lin0_len]; exact HKL.out) HKL.out HPL.out (HX.out.below (by (repeat (first | exact bl_refl _ | exact hbd' | apply bl_drew | apply bl_alloc)))) (hSd.below (by (repeat (first | exact bl_refl _ | apply bl_drew | apply bl_alloc)))) (by omega)).mono ?_; rintro e we ⟨SAe, sce, rfl, hSe, hOKe, hOffe, hbe⟩; (first
                | (have HZ := HRz; have hbe' : Below wr.heap.size wr we := below_trans hbd' hbe; have HRy := Lib.hid (HRz.out.below hbe); have fy0 := HRy.out.frozen 0; have fy1 := HRy.out.frozen 1; have ry0 := HRy.out.c0; have ry1 := HRy.out.c1)
                | (have hbeA : Below (wd.alloc shO).heap.size (wd.alloc shO) we := hbe; have hbe' : Below wr.heap.size wr we := below_trans hbd' (below_trans (below_alloc _ _) hbeA); have HRy := Lib.hid ((ShCell.new (w := wd) 0 (.slice none 0 0) rfl).below hbeA); have fy0 := HRy.out.frozen 0; have fy1 := HRy.out.frozen 1; have ry0 := HRy.out.c0; have ry1 := HRy.out.c1)
                | (have hbe' : Below wr.heap.size wr we := below_trans hbd' hbe)); have t0 := (hbe'.cell (p := ⟨px, 0, none⟩) lxr).trans y0; have t1 := (hbe'.cell (p := ⟨px, 1, none⟩) lxr).trans y1; have t2 := (hbe'.cell (p := ⟨px, 2, none⟩) lxr).trans y2; have t3 := (hbe'.cell (p := ⟨b1, o1 + k * 2, none⟩) hb1).trans x0; have t4 := (hbe'.cell (p := ⟨b1, o1 + k * 2 + 1, none⟩) hb1).trans x1; have t5 := (hbe'.cell (p := ⟨b2, o2 + k * 2, none⟩) hb2).trans u0; have t6 := (hbe'.cell (p := ⟨b2, o2 + k * 2 + 1, none⟩) hb2).trans u1))
        all_goals refine gen_last fun w9 hw9 => ?_
        · have hN9 : ShNew wr w9 we.heap.size x SAe sce (sumV p L K z) := hw9 ▸ ShNew.late hbe' hSe hOKe (fun b off e => by have := hOffe b off e; have := hbd'.size; omega)
          obtain ⟨g, hg⟩ : ∃ g, g = we.heap.size := ⟨_, rfl⟩
          rw [← hg] at hN9 ⊢
          clear hg hw9
          have g0 := hN9.cell.c0
          have g1 := hN9.cell.c1
          have lg := hN9.cell.lt
          have HN9 := Lib.hid hN9
          have hz9 := hN9.below.size
          obtain ⟨W, hW⟩ : ∃ W, W = w9.alloc (.cells #[.int .i64 (x : Int), .slice SAe (sumV p L K z).length sce] 47) := ⟨_, rfl⟩
          have hbW : Below wr.heap.size wr W := by rw [hW]; exact bl_alloc _ hN9.below
          have hWz : w9.heap.size ≤ W.heap.size := by rw [hW]; exact (below_alloc _ _).size
          obtain ⟨H, e1, e2, e3⟩ := (HR.out.below hbW).ex
          have HE3 := Lib.hid (And.intro e1 (And.intro e2 e3))
          have HWW := Lib.hid hW
          have hHl : H.length ≤ 7 := by rw [e2, HLK.out]; omega
          clear e2 e3 hN9 hOffe hSe hOKe hOffd hSd hOKd
          subst hW
          go_wp2_with (at_builtin; refine app_hv rfl (.tmp 110) (.tmp 112) rfl (base := wcy.heap.size) (H := H) (v := .slice OA k oc) ((x : Int), .slice SAe (sumV p L K z).length sce) rfl e1 rfl (heap_alloc_new _ _) rfl (by omega) (by omega) ?_; intro v4 w4 hown4 hg4 hb4 hv4)
          have HB4 := Lib.hid (hbr.trans ((hbW.mono hsz).trans hb4))
          have HR4 := Lib.hid (RowsV.put HR.out HN9.out hsz rfl HE3.out hown4 hg4 hv4 HTK.out)
          clear hown4 hg4 hv4 e1
          go_roundw
          case rel =>
            obtain rfl := HXK.out
            exact ⟨k + 1, by omega, by go_num, HR4.out, HB4.out⟩
          case measure => simp [intOf]; omega
        · have hN9 : ShNew wr w9 wd.heap.size x SAe sce (sumV p L K z) := hw9 ▸ ShNew.early (ShCell.new (w := wd) 0 (.slice none 0 0) rfl) zd (bl_alloc _ hbd') hbe hSe hOKe hOffe
          obtain ⟨g, hg⟩ : ∃ g, g = wd.heap.size := ⟨_, rfl⟩
          rw [← hg] at hN9 ⊢
          clear hg hw9
          have g0 := hN9.cell.c0
          have g1 := hN9.cell.c1
          have lg := hN9.cell.lt
          have HN9 := Lib.hid hN9
          have hz9 := hN9.below.size
          obtain ⟨W, hW⟩ : ∃ W, W = w9.alloc (.cells #[.int .i64 (x : Int), .slice SAe (sumV p L K z).length sce] 47) := ⟨_, rfl⟩
          have hbW : Below wr.heap.size wr W := by rw [hW]; exact bl_alloc _ hN9.below
          have hWz : w9.heap.size ≤ W.heap.size := by rw [hW]; exact (below_alloc _ _).size
          obtain ⟨H, e1, e2, e3⟩ := (HR.out.below hbW).ex
          have HE3 := Lib.hid (And.intro e1 (And.intro e2 e3))
          have HWW := Lib.hid hW
          have hHl : H.length ≤ 7 := by rw [e2, HLK.out]; omega
          clear e2 e3 hN9 hOffe hSe hOKe hOffd hSd hOKd
          subst hW
          go_wp2_with (at_builtin; refine app_hv rfl (.tmp 110) (.tmp 112) rfl (base := wcy.heap.size) (H := H) (v := .slice OA k oc) ((x : Int), .slice SAe (sumV p L K z).length sce) rfl e1 rfl (heap_alloc_new _ _) rfl (by omega) (by omega) ?_; intro v4 w4 hown4 hg4 hb4 hv4)
          have HB4 := Lib.hid (hbr.trans ((hbW.mono hsz).trans hb4))
          have HR4 := Lib.hid (RowsV.put HR.out HN9.out hsz rfl HE3.out hown4 hg4 hv4 HTK.out)
          clear hown4 hg4 hv4 e1
          go_roundw
          case rel =>
            obtain rfl := HXK.out
            exact ⟨k + 1, by omega, by go_num, HR4.out, HB4.out⟩
          case measure => simp [intOf]; omega
        · have hN9 : ShNew wr w9 wr.heap.size x SAe sce (sumV p L K z) := hw9 ▸ ShNew.early HRz.out (Nat.le_refl _) hbd' hbe hSe hOKe hOffe
          obtain ⟨g, hg⟩ : ∃ g, g = wr.heap.size := ⟨_, rfl⟩
          rw [← hg] at hN9 ⊢
          clear hg hw9
          have g0 := hN9.cell.c0
          have g1 := hN9.cell.c1
          have lg := hN9.cell.lt
          have HN9 := Lib.hid hN9
          have hz9 := hN9.below.size
          obtain ⟨W, hW⟩ : ∃ W, W = w9.alloc (.cells #[.int .i64 (x : Int), .slice SAe (sumV p L K z).length sce] 47) := ⟨_, rfl⟩
          have hbW : Below wr.heap.size wr W := by rw [hW]; exact bl_alloc _ hN9.below
          have hWz : w9.heap.size ≤ W.heap.size := by rw [hW]; exact (below_alloc _ _).size
          obtain ⟨H, e1, e2, e3⟩ := (HR.out.below hbW).ex
          have HE3 := Lib.hid (And.intro e1 (And.intro e2 e3))
          have HWW := Lib.hid hW
          have hHl : H.length ≤ 7 := by rw [e2, HLK.out]; omega
          clear e2 e3 hN9 hOffe hSe hOKe hOffd hSd hOKd
          subst hW
          go_wp2_with (at_builtin; refine app_hv rfl (.tmp 110) (.tmp 112) rfl (base := wcy.heap.size) (H := H) (v := .slice OA k oc) ((x : Int), .slice SAe (sumV p L K z).length sce) rfl e1 rfl (heap_alloc_new _ _) rfl (by omega) (by omega) ?_; intro v4 w4 hown4 hg4 hb4 hv4)
          have HB4 := Lib.hid (hbr.trans ((hbW.mono hsz).trans hb4))
          have HR4 := Lib.hid (RowsV.put HR.out HN9.out hsz rfl HE3.out hown4 hg4 hv4 HTK.out)
          clear hown4 hg4 hv4 e1
          go_roundw
          case rel =>
            obtain rfl := HXK.out
            exact ⟨k + 1, by omega, by go_num, HR4.out, HB4.out⟩
          case measure => simp [intOf]; omega
      · obtain rfl : k = h := by omega
        go_wp2_with fail
        have hll : (linN p sa sb z).length ≤ 2048 := by rw [linN_len]; omega
        have HMS := Lib.hid (HMDx.out.add (c := z) h1 HMDy.out (HLA.out.trans HLB.out.symm) (HMl.out.trans HNl.out.symm) (fun j hj => by rw [HNl.out] at hj; exact (HRM.out j hj).1.trans (HRN.out j hj).1.symm))
        have HSL := Lib.hid ((addT_len p z N M).trans HNl.out)
        have hT := HRd.out
        rw [List.take_of_length_le (by rw [HSL.out]; exact Nat.le_refl _)] at hT
        have HT := Lib.hid (hT.mono (Q := (· ≠ D)) (fun b _ hb => by omega))
        have HSAr := Lib.hid (Held.app HSA.out.nats HSA.out hbr)
        have HSBr := Lib.hid (Held.app HSB.out.nats HSB.out hbr)
        have hErl := hEr.lt
        clear hT HRd HR HN0 HM0 HNx9 HNy HSA HSB HMDx HMDy HRN HRM HLK
        generalize addT p z N M = S at *
        go_region_held3 (fun w' => w'.cell? ⟨px, 0, none⟩ = some (.int .i64 (p : Int)) ∧ w'.cell? ⟨px, 1, none⟩ = some (.int .i64 (n : Int)) ∧ w'.cell? ⟨px, 2, none⟩ = some (.int .i64 (k : Int))) (first | go_keep)
          (first
            | (go_at_call 26; refine (turn_made D _ OA oc k S n _ (by exact hEr.dice) (by exact HT.out.drewT) (HMS.out.short (by omega)) (by rw [HSL.out]; omega) (by omega) HSL.out.symm).mono ?_; rintro e wt ⟨TA, tc, MM, Rt, rfl, htp, htl, hle, hTS, hDt, hgt⟩; have hgt' : wr.grownBy wt (some D) := grown_undrew hgt; have hEt := hEr.next hDt hgt'; have HPt := Lib.hid (HPr.out.mv hgt' hxD); have q0 := HPt.out.c0; have q1 := HPt.out.c1; have q2 := HPt.out.c2; have HMM := Lib.hid (HMS.out.part htp); have hmn : n ≤ MM.length := hle (HSL.out.symm ▸ hnh); have hml : MM.length ≤ 7 := Nat.le_trans (HSL.out ▸ htl) hh7; have HTS := Lib.hid hTS; clear hTS)
            | (go_at_call 27; refine (combine_made HMM.out HPN.out TA tc MM.length _ (hEt.bases HB.out) (by exact HTS.out) (by omega) (by omega) rfl hmn).mono ?_; intro e wu he; obtain ⟨XA, xc, rfl, hX, hbu⟩ := he.held hEt.lt; have hEu := hEt.mv hbu; have HPu := Lib.hid (HPt.out.below hbu); have v0 := HPu.out.c0; have v1 := HPu.out.c1; have v2 := HPu.out.c2))
        have HX := Lib.hid hX
        have HTu := Lib.hid ((HT.out.mv hgt').below hbu)
        have HSAu := Lib.hid ((HSAr.out.mv hgt').below hbu)
        have HSBu := Lib.hid ((HSBr.out.mv hgt').below hbu)
        have hlX : (linN p sa sb z).length = max sa.length sb.length := linN_len _ _ _ _
        have HLX := Lib.hid hlX
        clear he hX hgt hgt' hDt htp htl hle hEt hbu HPt HTS HMM q0 q1 q2 y0 y1 y2 HPr HSAr HSBr HT hlX
        go_wp2_with fail
        refine (refLinear_any p SA SB sa sb sac sbc z _ h1 hp2 HSAu.out.nats HSBu.out.nats HAP.out HBP.out hzp (by omega) (by omega)).mono ?_
        intro e wv he
        obtain ⟨YA, yc, rfl, hY, -, -, hbv⟩ := he.open_
        have HXv := Lib.hid (HX.out.below hbv)
        have HTv := Lib.hid (HTu.out.below hbv)
        have HPv := Lib.hid (HPu.out.below hbv)
        have hEv := hEu.mv hbv
        have q0 := HPv.out.c0; have q1 := HPv.out.c1; have q2 := HPv.out.c2
        have HY := Lib.hid hY
        clear v0 v1 v2 HPu HTu HX HSAu HSBu hbv hEu he hY
        go_wp2_with fail
        refine (same_at XA YA (linN p sa sb z) _ _ xc yc _ HXv.out.nats HY.out (by omega) rfl rfl).mono ?_
        rintro e wx ⟨rfl, rfl⟩
        go_wp2_with fail
        refine ret_below (fits_made HMS.out HPN.out OA oc k _ (hEv.bases HB.out) (by exact HTv.out) (by omega) (by rw [HSL.out]; omega) HSL.out.symm) ?_
        intro wy hby
        have hEy := hEv.mv hby
        go_wp2_with fail
        refine ret_below (awake_any _ (hEy.bases HB.out)) ?_
        intro wz hbz
        go_wp2_with fail
        go_ret
        exact RetB.bool rfl (hEy.mv hbz).below
  · have hL := light_any A0 L0.length c0 w
    rw [decide_eq_false hlight] at hL
    have HLt := Lib.hid hL
    clear hL
    go_enter Tryd.func7, Tryd.ntmps7
    go_wp2_with fail
    refine ret_pure HLt.out ?_
    go_wp2_with fail
    refine ret_below (awake_any _ HB.out) ?_
    intro w1 hb1
    go_wp2_with fail
    go_ret
    exact RetB.bool rfl hb1
end Go.Proofs.YtkjpnhhkebbmdaaDoor
