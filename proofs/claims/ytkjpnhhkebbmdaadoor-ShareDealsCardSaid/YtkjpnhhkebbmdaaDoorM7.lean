/-
  Shares: the document's Deal.
  Shares: the verifier's Dealt.
  Shares: the document's Deal of any plan and numbers.
  Shares: the comparison of equal lists; sums of two lists.
  Shares: a plan of dice that may not be valid.
  What passes the program's test: Fermat's law for the four bases; a quick test for the kernel.
  The least exponent that four bases have in common.
  All multiples of a prime, in the kernel.
  The kernel's checks of multiples of primes, part 1.
  The kernel's checks of multiples of primes, part 2.
  The kernel's checks of multiples of primes, part 3.
  The kernel's checks of multiples of primes, part 4.
  Products of small primes, and large primes times small ones, in the kernel.
  Conditions: those that each theorem names.
-/
import Derived.Test.YtkjpnhhkebbmdaaDoorM6
import Derived.StillTailTactics
import Derived.Deep.RegionWith
set_option linter.unusedVariables false
set_option linter.unusedSimpArgs false
namespace Go.Proofs.YtkjpnhhkebbmdaaDoor
open Go.RowKit

attribute [local go_sem high] sliced_low
theorem elems_nat (p : Nat) (A : Option Addr) (L : List Nat) (c : Nat) (w : World) (hA : NatsAt w A L) (hl : L.length ≤ 1048576) (hL : ∀ x ∈ L, x < p) (hv : primeV p = true) :
    Calls Tryd.prog 47 #[.int .i64 p, .slice A L.length c] w (Ret (.bool true) w) := by
  have := elems_ref A (ofN L) c p w hA.ints (by rw [len_ofN]; omega)
  unfold elemsI at this
  rw [hv, Bool.and_true, show inside p (ofN L) = true from nat_inside hL, len_ofN] at this
  exact this
/-- The values that holder k + 1 gets. -/
def rowN (p n : Nat) (SN RN : List Nat) (x : Nat) : List Nat := (List.range SN.length).map fun i => evN p (polN SN RN (n - 1) i) x
theorem rowN_len (p n : Nat) (SN RN : List Nat) (x : Nat) : (rowN p n SN RN x).length = SN.length := by simp [rowN]
theorem rowN_take {p n x i : Nat} {SN RN : List Nat} (h : i < SN.length) : (rowN p n SN RN x).take (i + 1) = (rowN p n SN RN x).take i ++ [evN p (polN SN RN (n - 1) i) x] := by
  rw [List.take_succ_eq_append_getElem (by rw [rowN_len]; exact h)]; simp [rowN]
theorem deal_take {p n h k : Nat} {SN RN : List Nat} (hk : k < h) : (dealN p n h SN RN).take (k + 1) = (dealN p n h SN RN).take k ++ [(k + 1, rowN p n SN RN (k + 1))] := by
  have hk' : k < (dealN p n h SN RN).length := by rw [deal_len]; exact hk
  rw [List.take_succ_eq_append_getElem hk', getD_at hk']
  unfold dealN
  rw [(dealtT_at hk).1, (dealtT_at hk).2]; rfl
theorem take_len {L : List Nat} {n i : Nat} (h : L.length = n) (hi : i ≤ n) : (L.take i).length = i := by rw [List.length_take]; omega

theorem enter_refEval (args : Array Value) (w : World) : (callFunc 48 args).run Tryd.prog w = .ok (.enter 48 args) w :=
  Go.MuLone.run_callFunc_enter Tryd.func48 (by kernel_rfl) rfl args w
theorem step_refEval {ops : Array Oper} {o : Oper} {a : Act} {K : Act → World → Prop} {Q : Exit → Act → World → Prop} {E : Prop} {p y x : Nat} {F : Option Addr} {cf m : Nat} (W : World) (hgd : o.guard = none) (s1 s2 s3 : Operand) (ts : Array TypeId)
    (ho : o.op = .call { callee := .value (.func 48), args := #[s1, s2, s3], argTypes := ts }) (h1 : a.eval s1 = .int .i64 (p : Int)) (h2 : a.eval s2 = .slice F m cf) (h3 : a.eval s3 = .int .i64 (x : Int))
    (hc : Calls Tryd.prog 48 #[.int .i64 (p : Int), .slice F m cf, .int .i64 (x : Int)] W (RetB (.int .i64 (y : Int)) W)) (h : ∀ w', Below W.heap.size W w' → K (a.put o.dst (.int .i64 (y : Int))) w') :
    if Region.wanted o (yielded ops a.tmps) = true then Oper.wp Tryd.prog o a W K Q else E :=
  step_call W hgd _ _ ts ho enter_refEval _ (by simp [h1, h2, h3]) hc (fun e w' hr => by obtain ⟨rfl, hb⟩ := hr; exact ⟨_, rfl, h w' hb⟩)

set_option maxRecDepth 100000 in
set_option maxHeartbeats 4000000 in
theorem refDeal_k (p n h : Nat) (A B : Option Addr) (ca cb : Nat) (SN RN : List Nat) (w : World) (hq : PrimeN p) (hq2 : p ≤ 1073741824) (hv : primeV p = validI p) (hpl : plB p n h = true) (h1 : 1 ≤ n) (hkk : 2 ≤ n) (hnh : n ≤ h) (hh : h ≤ 16) (hhp : h < p) (hA : NatsAt w A SN) (hR : NatsAt w B RN) (hok : IOK B cb RN.length)
    (hs : ∀ x ∈ SN, x < p) (hr : ∀ x ∈ RN, x < p) (hl : RN.length = SN.length * (n - 1)) (hm : SN.length ≤ 2048) (hm2 : RN.length ≤ 1048576) :
    Calls Tryd.prog 21 #[planV p n h, .slice A SN.length ca, .slice B RN.length cb] w (ShErr (shL (dealN p n h SN RN)) 0 w) := by
  obtain ⟨k0, hk0⟩ : ∃ k0, k0 = n - 1 := ⟨_, rfl⟩
  have hk' : (n : Int) - 1 = (k0 : Int) := by omega
  have HVA := Lib.hid (fun (W : World) => show Calls Tryd.prog 19 #[planV p n h] W (RetB (.bool true) W) from by have := refValid_plan p n h W hv; rw [hpl] at this; exact this)
  have hpv : primeV p = true := plB_pv hpl hv
  have HES := Lib.hid (fun (W : World) (hb : Below w.heap.size w W) => elems_nat p A SN ca W (hA.below hb) (by omega) hs hpv)
  have HER := Lib.hid (fun (W : World) (hb : Below w.heap.size w W) => elems_nat p B RN cb W (hR.below hb) hm2 hr hpv)
  have HRN := Lib.hid (fun (W : World) => refRandom_any p n h SN.length W (by omega) (by omega) (by omega) (by omega))
  have HA := Lib.hid hA
  have HR := Lib.hid hR
  have HOK := Lib.hid hok
  have HSP := Lib.hid hs
  have HRP := Lib.hid hr
  have hle : (RN.length : Int) = SN.length * ((n : Int) - 1) := by rw [hl, hk', ← hk0]; push_cast; rfl
  have t2 : ((RN.length : Int) != (SN.length : Int) * ((n : Int) - 1)) = false := by simp [hle]
  have t1 : decide (2048 < (SN.length : Int)) = false := decide_eq_false (by omega)
  have HLE := Lib.hid (show RN.length = SN.length * k0 by rw [hk0]; exact hl)
  have HK0 := Lib.hid hk0
  have HKK := Lib.hid hkk
  have HKI := Lib.hid hk'
  have b0 : 1 ≤ p := by omega
  have hn7 : n ≤ 16 := by omega
  have hk8 : k0 ≤ 16 := by omega
  clear hA hR hok hs hr hl hle hk0 hkk hk' hv hpl hq hpv
  go_enter Tryd.func21, Tryd.ntmps21
  go_wp2_with fail
  refine ret_below (HVA.out _) ?_
  intro w1 hb1
  have hbw1 := below_trans (below_alloc _ _) hb1
  have HP := Lib.hid ((PlanCell.new (w := w) p n h rfl).below hb1)
  have p0 := HP.out.c0
  have p1 := HP.out.c1
  have p2 := HP.out.c2
  go_wp2_with fail
  refine ret_pure (HES.out _ hbw1) ?_
  go_wp2_with fail
  refine ret_pure (HER.out _ hbw1) ?_
  go_wp2_with fail
  refine ret_below (HRN.out _) ?_
  intro w4 hb4
  have hbw4 := below_trans hbw1 hb4
  have HP4 := Lib.hid (HP.out.below hb4)
  have p04 := HP4.out.c0
  have p14 := HP4.out.c1
  have p24 := HP4.out.c2
  have hpxl := HP4.out.lt
  clear p0 p1 p2 hb1 hb4 HVA HES HER HRN
  have ew : IntKind.i64.wrap ((n : Int) - 1) = (n : Int) - 1 := IntWalk.i64_in _ (by omega)
  go_wp2_with fail
  have HRM := Lib.hid (show ∀ i, i < SN.length → i * k0 + k0 ≤ RN.length from fun i hi => by rw [HLE.out]; exact part_bd hi)
  go_loopw [8, 10] (fun o i wr => ∃ k x : Nat, k ≤ h ∧ x = k + 1 ∧ i = .int .i64 x ∧ RowsV (fun b => w4.heap.size ≤ b) wr w4.heap.size o (shL ((dealN p n h SN RN).take k)) ∧ Below w4.heap.size w4 wr) (fun _ i _ => h + 1 - (intOf i).toNat)
  case atStart => exact ⟨0, 1, Nat.zero_le _, rfl, rfl, RowsV.nil _ _ _, Below.refl _ _⟩
  case round =>
    obtain ⟨k, x, hk, hx, rfl, hR, hbr⟩ := hrel
    obtain ⟨OA, oc, hv, hRd⟩ := hR.read
    have hlk : (shL ((dealN p n h SN RN).take k)).length = k := by rw [shL_len, List.length_take, deal_len]; omega
    rw [hlk] at hv
    subst hv
    have hsz := hbr.size
    have hbwo := below_trans hbw4 hbr
    have hPr := HP4.out.keep (hbr.block w.heap.size hpxl)
    have y0 := hPr.c0
    have y1 := hPr.c1
    have y2 := hPr.c2
    have hpxr := hPr.lt
    have HPr := Lib.hid hPr
    have HR' := Lib.hid hR
    have HLK := Lib.hid hlk
    have HRd := Lib.hid hRd
    have HXK := Lib.hid hx
    clear hR hlk hRd hPr p04 p14 p24
    by_cases hlt : k < h
    · have hxh : x ≤ h := by omega
      have HTK := Lib.hid (deal_take (p := p) (n := n) (SN := SN) (RN := RN) hlt)
      rw [← hx] at HTK
      clear hx
      obtain ⟨wo, rfl⟩ : ∃ wo : World, wo = wr := ⟨_, rfl⟩
      go_wp2_with fail
      refine gen_world fun w5 hw5 => ?_
      have hsc : ShCell w5 wo.heap.size x (.slice none 0 0) := by rw [hw5]; exact ShCell.new _ _ rfl
      have hb5 : Below wo.heap.size wo w5 := by rw [hw5]; exact below_alloc _ _
      have hz5 := hsc.lt
      have HSC := Lib.hid hsc
      clear hw5 hsc y0 y1 y2
      go_loopw [58] (fun j wr => ∃ (m : Nat) (v : Value), m ≤ SN.length ∧ j = .int .i64 m ∧ ShCell wr wo.heap.size x v ∧ wr.ownsRow w5.heap.size 3 1 v ((rowN p n SN RN x).take m).length (valsN ((rowN p n SN RN x).take m)) ∧ Below wo.heap.size wo wr ∧ w5.heap.size ≤ wr.heap.size) (fun j _ => SN.length - (intOf j).toNat)
      case atStart => exact ⟨0, _, Nat.zero_le _, rfl, HSC.out, World.ownsRow_nil _ _ _ _, hb5, Nat.le_refl _⟩
      case round =>
        obtain ⟨i, v, hi, rfl, hsc, hown, hbq0, hzq⟩ := hrel
        have hbq := below_trans hbwo hbq0
        have hPq := HPr.out.below hbq0
        have y0 := hPq.c0
        have y1 := hPq.c1
        have y2 := hPq.c2
        have s0 := hsc.c0
        have s1 := hsc.c1
        have lS := hsc.lt
        have hpq := hPq.lt
        have hwq := hbq0.size
        have HPq := Lib.hid hPq
        clear hPq
        have hrl : (rowN p n SN RN x).length = SN.length := rowN_len _ _ _ _ _
        by_cases hlt2 : i < SN.length
        · obtain ⟨VA, vc, rfl, -⟩ := own_sl hown rfl
          have HSQ := Lib.hid hsc
          have HOWN := Lib.hid hown
          clear hsc hown
          obtain ⟨bA, oA, rfl, hbA, hcA⟩ := (HA.out.below hbq) i hlt2
          have HTI := Lib.hid (rowN_take (p := p) (n := n) (x := x) (SN := SN) (RN := RN) hlt2)
          have HTIL := Lib.hid (take_len hrl hi)
          clear hrl
          obtain ⟨f, hf⟩ : ∃ f, f = polN SN RN (n - 1) i := ⟨_, rfl⟩
          have hfl : f.length ≤ 17 := by have h1 : f.length ≤ (n - 1) + 1 := by { rw [hf]; exact polN_len }; omega
          have HFP := Lib.hid (show ∀ y ∈ f, y < p by rw [hf]; exact polN_lt b0 HSP.out HRP.out _ i)
          rw [← hf] at HTI
          obtain ⟨T, hT⟩ : ∃ T, T = (RN.drop (i * (n - 1))).take (n - 1) := ⟨_, rfl⟩
          have hXn : nthN SN i < p := nthN_lt b0 HSP.out i
          have hrm := HRM.out i hlt2
          have hTN : NatsAt wr B RN := HR.out.below hbq
          have hTl : T.length = k0 := by rw [hT, List.length_take, List.length_drop, ← HK0.out]; omega
          obtain ⟨lo, hlo⟩ : ∃ lo, lo = i * k0 := ⟨_, rfl⟩
          have e1 : (i : Int) * ((n : Int) - 1) = (lo : Int) := by rw [HKI.out, hlo]; push_cast; rfl
          rw [← hlo] at hrm
          obtain ⟨bB, oB, rfl, hbB, -⟩ := hTN lo (by have := HKK.out; have := HK0.out; omega)
          have hne : ¬ cb = lo := by have := HOK.out.len; have := HKK.out; have := HK0.out; omega
          obtain ⟨hi', hh'⟩ : ∃ x, x = lo + k0 := ⟨_, rfl⟩
          have e2 : ((i : Int) + 1) * ((n : Int) - 1) = (hi' : Int) := by rw [Int.add_mul, e1, Int.one_mul, HKI.out]; omega
          have b1 : (0 : Int) ≤ (i : Int) * ((n : Int) - 1) := by rw [e1]; omega
          have b2 : (i : Int) * ((n : Int) - 1) ≤ 1048576 := by rw [e1]; omega
          have b3 : (0 : Int) ≤ ((i : Int) + 1) * ((n : Int) - 1) := by rw [e2]; omega
          have b4 : ((i : Int) + 1) * ((n : Int) - 1) ≤ 1048576 := by rw [e2]; omega
          have HTL := Lib.hid (show T.length = hi' - lo by omega)
          have hTn : NatsAt wr (some ⟨bB, oB + lo, none⟩) T := by rw [hT, ← HK0.out, ← hlo]; exact (hTN.dropAt lo).take k0
          have HTN := Lib.hid hTn
          have hcap := HOK.out.len
          have c1 : (lo : Int) ≤ (hi' : Int) := by omega
          have c2 : (hi' : Int) ≤ (cb : Int) := by omega
          have c3 : (lo : Int) ≤ (cb : Int) := by omega
          have c4 : (0 : Int) ≤ (lo : Int) := by omega
          have c5 : T.length ≤ 1048576 := by omega
          have HPOL : Hid ([nthN SN i] ++ T = f) := by rw [hf, hT]; rfl
          clear hlo hTN hTl hf hT hTn hh' 
          go_wp2_with (at_builtin; refine app_sl rfl (.tmp 64) (.tmp 73) rfl (base := wr.heap.size) (v := .slice (some ⟨wr.heap.size, 0, none⟩) 1 1) (S := [nthN SN i]) T (some ⟨bB, oB + lo, none⟩) (cb - lo) rfl ((lit1_nats wr (nthN SN i)).own (Nat.le_refl _) (by unfold maxLen; simp)) (by rw [HTL.out]; rfl) (HTN.out.alloc _) (fun e => by cases e) (.inr (fun a e => by injection e with e; subst e; rfl)) (by simp; omega) (by simp) ?_; intro v6 w6 hown6 hb6; rw [HPOL.out] at hown6; obtain ⟨Fa, fc, rfl, hFN, hFS, hFb⟩ := own_sl hown6 rfl; have hb6' : Below wr.heap.size wr w6 := (below_of_alloc hb6 (Nat.le_refl _)); have HFN := Lib.hid hFN; clear hFN hFb hown6)
          have hz6 := hb6'.size
          have HPq6 := Lib.hid (HPq.out.below hb6')
          have HSQ6 := Lib.hid (HSQ.out.below hb6')
          have u0 := HPq6.out.c0
          have u1 := HSQ6.out.c1
          have u2 := HSQ6.out.c0
          have u3 := HSQ6.out.frozen 1
          have lS6 := HSQ6.out.lt
          have lP6 := HPq6.out.lt
          have HOWN6 := Lib.hid (own_below HOWN.out hb6')
          have HEV := Lib.hid (fun (W : World) (hb : Below w6.heap.size w6 W) => show Calls Tryd.prog 48 #[.int .i64 (p : Int), .slice Fa f.length fc, .int .i64 (x : Int)] W (RetB (.int .i64 (evN p f x : Nat)) W) from (refEval_any p x Fa f fc W b0 (by omega) (by omega) HFP.out (HFN.out.below hb) (by omega)).mono (by rintro e w1 ⟨rfl, rfl⟩; exact ⟨rfl, Below.refl _ _⟩))
          generalize evN p f x = y at *
          generalize hMM : (rowN p n SN RN x).take i = M at *
          have hml : M.length ≤ 2048 := by have := HTIL.out; omega
          have HMM := Lib.hid hMM
          clear y0 y1 y2 s0 s1 HOWN hMM
          go_wp2_with fail
          go_region_law (first
            | (refine step_refEval _ rfl (.tmp 78) (.tmp 79) (.tmp 80) _ rfl rfl rfl rfl (HEV.out _ (by (repeat (first | exact bl_refl _ | apply bl_drew | apply bl_alloc)))) ?_; intro w7 hb7; have hb7' : Below w6.heap.size w6 w7 := (below_undrew1 hb7); have l7 := Nat.lt_of_lt_of_le lS6 hb7'.size; have m0 := (hb7'.cell (p := ⟨w.heap.size, 0, none⟩) lP6).trans u0; have m1 := (hb7'.cell (p := ⟨wo.heap.size, 1, none⟩) lS6).trans u1; have m2 := (hb7'.frozen (p := ⟨wo.heap.size, 1, none⟩) lS6).trans u3)
            | (refine step_app_row _ rfl (.tmp 76) (.tmp 82) rfl w7 w5.heap.size (.slice VA M.length vc) M y rfl rfl ⟨rfl, rfl, rfl, rfl⟩ (own_below HOWN6.out hb7') (by omega) (by have := hb7'.size; omega) ?_; intro g' cap w8 hown8 hg8 hbW8 hat8 hb8; have n1 := (hb8.cell (p := ⟨wo.heap.size, 1, none⟩) hz5).trans m1; have n2 := (hb8.frozen (p := ⟨wo.heap.size, 1, none⟩) hz5).trans m2))
          all_goals
            have hc8 : ShCell w8 wo.heap.size x (.slice VA M.length vc) := (hb8.block wo.heap.size hz5).trans (HSQ6.out.below hb7')
            have hcz := hc8.set1 (.slice (some ⟨g', 0, none⟩) (M.length + 1) cap)
            have hoz := own_other hown8 ⟨wo.heap.size, 1, none⟩ (.slice (some ⟨g', 0, none⟩) (M.length + 1) cap) (fun b e => by have := (hown8.lt b e).1; dsimp only; omega)
            have hbz := (below_trans (below_trans hbq0 hb6') hb7').trans (hb8.mono (show wo.heap.size ≤ w5.heap.size by omega))
            have hzz := hbz.setCell (p := ⟨wo.heap.size, 1, none⟩) (Nat.le_refl _) (.slice (some ⟨g', 0, none⟩) (M.length + 1) cap)
            have hs8 := hb8.size
            have hs7 := hb7'.size
            have hz9 : w5.heap.size ≤ (w8.setCell ⟨wo.heap.size, 1, none⟩ (.slice (some ⟨g', 0, none⟩) (M.length + 1) cap)).heap.size := by simp [World.setCell]; omega
            have HZ := Lib.hid (And.intro hcz (And.intro hoz (And.intro hzz hz9)))
            clear hc8 hcz hoz hbz hzz hz9 hown8 n1 n2
            go_wp2_with fail
            go_roundw
            case rel => exact ⟨i + 1, _, by omega, by go_num, HZ.out.1, by rw [HTI.out, List.length_append]; exact HZ.out.2.1, HZ.out.2.2.1, HZ.out.2.2.2⟩
            case measure => simp [intOf]; omega
        · obtain rfl : i = SN.length := by omega
          rw [List.take_of_length_le (by rw [hrl]; exact Nat.le_refl _)] at hown
          clear hrl
          obtain ⟨VA, vc, rfl, hVN, hVS, hVb⟩ := own_sl hown rfl
          have HSQ := Lib.hid hsc
          clear hsc
          have hN9 : ShNew wo wr wo.heap.size x VA vc (rowN p n SN RN x) := ⟨HSQ.out, hVN, hVS, fun b off e => by have := hVb b off e; omega, Nat.le_refl _, hbq0⟩
          generalize rowN p n SN RN x = L at *
          have HN9 := Lib.hid hN9
          have hz9 := hN9.below.size
          obtain ⟨W, hW⟩ : ∃ W, W = wr.alloc (.cells #[.int .i64 (x : Int), .slice VA L.length vc] 47) := ⟨_, rfl⟩
          have hbW : Below wo.heap.size wo W := by rw [hW]; exact bl_alloc _ hN9.below
          have hWz : wr.heap.size ≤ W.heap.size := by rw [hW]; exact (below_alloc _ _).size
          obtain ⟨H, e1, e2, e3⟩ := (HR'.out.below hbW).ex
          have HE3 := Lib.hid (And.intro e1 (And.intro e2 e3))
          have hHl : H.length ≤ 16 := by rw [e2, HLK.out]; omega
          clear e2 e3 hN9 hVN hVS hVb hown
          subst hW
          go_wp2_with (at_builtin; refine app_hv rfl (.tmp 86) (.tmp 88) rfl (base := w4.heap.size) (H := H) (v := .slice OA k oc) ((x : Int), .slice VA L.length vc) rfl e1 rfl (heap_alloc_new _ _) rfl (by omega) (by omega) ?_; intro v4 w8 hown4 hg4 hb4 hv4)
          have hpl8 := (hbr.trans ((hbW.mono hsz).trans hb4))
          have HB4 := Lib.hid hpl8
          have HR4 := Lib.hid (RowsV.put HR'.out HN9.out hsz rfl HE3.out hown4 hg4 hv4 HTK.out)
          clear hown4 hg4 hv4 e1 hpl8
          go_roundw
          case rel => exact ⟨x, x + 1, hxh, rfl, by go_num, HR4.out, HB4.out⟩
          case measure => simp [intOf]; omega
    · obtain rfl : k = h := by omega
      have hX := HRd.out
      rw [List.take_of_length_le (by rw [deal_len]; exact Nat.le_refl _)] at hX
      have hz4 := hbw4.size
      have HX := Lib.hid (hX.mono (Q := fun b => w.heap.size ≤ b) (fun b _ hb => by omega))
      clear hX
      go_wp2_with fail
      go_ret2
      exact ⟨OA, oc, by { have e := (shL_len (dealN p n k SN RN)).trans (deal_len p n k SN RN); rw [e]; first | done | rfl }, HX.out, hbwo⟩

set_option maxRecDepth 100000 in
set_option maxHeartbeats 4000000 in
theorem refDeal_z (p n h : Nat) (A B : Option Addr) (ca cb : Nat) (SN RN : List Nat) (w : World) (hq : PrimeN p) (hq2 : p ≤ 1073741824) (hv : primeV p = validI p) (hpl : plB p n h = true) (h1 : 1 ≤ n) (hkk : n = 1) (hnh : n ≤ h) (hh : h ≤ 16) (hhp : h < p) (hA : NatsAt w A SN) (hR : NatsAt w B RN) (hok : IOK B cb RN.length)
    (hs : ∀ x ∈ SN, x < p) (hr : ∀ x ∈ RN, x < p) (hl : RN.length = SN.length * (n - 1)) (hm : SN.length ≤ 2048) (hm2 : RN.length ≤ 1048576) :
    Calls Tryd.prog 21 #[planV p n h, .slice A SN.length ca, .slice B RN.length cb] w (ShErr (shL (dealN p n h SN RN)) 0 w) := by
  obtain ⟨k0, hk0⟩ : ∃ k0, k0 = n - 1 := ⟨_, rfl⟩
  have hk' : (n : Int) - 1 = (k0 : Int) := by omega
  have HVA := Lib.hid (fun (W : World) => show Calls Tryd.prog 19 #[planV p n h] W (RetB (.bool true) W) from by have := refValid_plan p n h W hv; rw [hpl] at this; exact this)
  have hpv : primeV p = true := plB_pv hpl hv
  have HES := Lib.hid (fun (W : World) (hb : Below w.heap.size w W) => elems_nat p A SN ca W (hA.below hb) (by omega) hs hpv)
  have HER := Lib.hid (fun (W : World) (hb : Below w.heap.size w W) => elems_nat p B RN cb W (hR.below hb) hm2 hr hpv)
  have HRN := Lib.hid (fun (W : World) => refRandom_any p n h SN.length W (by omega) (by omega) (by omega) (by omega))
  have HA := Lib.hid hA
  have HR := Lib.hid hR
  have HOK := Lib.hid hok
  have HSP := Lib.hid hs
  have HRP := Lib.hid hr
  have hle : (RN.length : Int) = SN.length * ((n : Int) - 1) := by rw [hl, hk', ← hk0]; push_cast; rfl
  have t2 : ((RN.length : Int) != (SN.length : Int) * ((n : Int) - 1)) = false := by simp [hle]
  have t1 : decide (2048 < (SN.length : Int)) = false := decide_eq_false (by omega)
  have HLE := Lib.hid (show RN.length = SN.length * k0 by rw [hk0]; exact hl)
  have HK0 := Lib.hid hk0
  have HKK := Lib.hid hkk
  have HKI := Lib.hid hk'
  have b0 : 1 ≤ p := by omega
  have hn7 : n ≤ 16 := by omega
  have hk8 : k0 ≤ 16 := by omega
  clear hA hR hok hs hr hl hle hk0 hkk hk' hv hpl hq hpv
  go_enter Tryd.func21, Tryd.ntmps21
  go_wp2_with fail
  refine ret_below (HVA.out _) ?_
  intro w1 hb1
  have hbw1 := below_trans (below_alloc _ _) hb1
  have HP := Lib.hid ((PlanCell.new (w := w) p n h rfl).below hb1)
  have p0 := HP.out.c0
  have p1 := HP.out.c1
  have p2 := HP.out.c2
  go_wp2_with fail
  refine ret_pure (HES.out _ hbw1) ?_
  go_wp2_with fail
  refine ret_pure (HER.out _ hbw1) ?_
  go_wp2_with fail
  refine ret_below (HRN.out _) ?_
  intro w4 hb4
  have hbw4 := below_trans hbw1 hb4
  have HP4 := Lib.hid (HP.out.below hb4)
  have p04 := HP4.out.c0
  have p14 := HP4.out.c1
  have p24 := HP4.out.c2
  have hpxl := HP4.out.lt
  clear p0 p1 p2 hb1 hb4 HVA HES HER HRN
  have ew : IntKind.i64.wrap ((n : Int) - 1) = (n : Int) - 1 := IntWalk.i64_in _ (by omega)
  go_wp2_with fail
  have HRM := Lib.hid (show ∀ i, i < SN.length → i * k0 + k0 ≤ RN.length from fun i hi => by rw [HLE.out]; exact part_bd hi)
  go_loopw [8, 10] (fun o i wr => ∃ k x : Nat, k ≤ h ∧ x = k + 1 ∧ i = .int .i64 x ∧ RowsV (fun b => w4.heap.size ≤ b) wr w4.heap.size o (shL ((dealN p n h SN RN).take k)) ∧ Below w4.heap.size w4 wr) (fun _ i _ => h + 1 - (intOf i).toNat)
  case atStart => exact ⟨0, 1, Nat.zero_le _, rfl, rfl, RowsV.nil _ _ _, Below.refl _ _⟩
  case round =>
    obtain ⟨k, x, hk, hx, rfl, hR, hbr⟩ := hrel
    obtain ⟨OA, oc, hv, hRd⟩ := hR.read
    have hlk : (shL ((dealN p n h SN RN).take k)).length = k := by rw [shL_len, List.length_take, deal_len]; omega
    rw [hlk] at hv
    subst hv
    have hsz := hbr.size
    have hbwo := below_trans hbw4 hbr
    have hPr := HP4.out.keep (hbr.block w.heap.size hpxl)
    have y0 := hPr.c0
    have y1 := hPr.c1
    have y2 := hPr.c2
    have hpxr := hPr.lt
    have HPr := Lib.hid hPr
    have HR' := Lib.hid hR
    have HLK := Lib.hid hlk
    have HRd := Lib.hid hRd
    have HXK := Lib.hid hx
    clear hR hlk hRd hPr p04 p14 p24
    by_cases hlt : k < h
    · have hxh : x ≤ h := by omega
      have HTK := Lib.hid (deal_take (p := p) (n := n) (SN := SN) (RN := RN) hlt)
      rw [← hx] at HTK
      clear hx
      obtain ⟨wo, rfl⟩ : ∃ wo : World, wo = wr := ⟨_, rfl⟩
      go_wp2_with fail
      refine gen_world fun w5 hw5 => ?_
      have hsc : ShCell w5 wo.heap.size x (.slice none 0 0) := by rw [hw5]; exact ShCell.new _ _ rfl
      have hb5 : Below wo.heap.size wo w5 := by rw [hw5]; exact below_alloc _ _
      have hz5 := hsc.lt
      have HSC := Lib.hid hsc
      clear hw5 hsc y0 y1 y2
      go_loopw [58] (fun j wr => ∃ (m : Nat) (v : Value), m ≤ SN.length ∧ j = .int .i64 m ∧ ShCell wr wo.heap.size x v ∧ wr.ownsRow w5.heap.size 3 1 v ((rowN p n SN RN x).take m).length (valsN ((rowN p n SN RN x).take m)) ∧ Below wo.heap.size wo wr ∧ w5.heap.size ≤ wr.heap.size) (fun j _ => SN.length - (intOf j).toNat)
      case atStart => exact ⟨0, _, Nat.zero_le _, rfl, HSC.out, World.ownsRow_nil _ _ _ _, hb5, Nat.le_refl _⟩
      case round =>
        obtain ⟨i, v, hi, rfl, hsc, hown, hbq0, hzq⟩ := hrel
        have hbq := below_trans hbwo hbq0
        have hPq := HPr.out.below hbq0
        have y0 := hPq.c0
        have y1 := hPq.c1
        have y2 := hPq.c2
        have s0 := hsc.c0
        have s1 := hsc.c1
        have lS := hsc.lt
        have hpq := hPq.lt
        have hwq := hbq0.size
        have HPq := Lib.hid hPq
        clear hPq
        have hrl : (rowN p n SN RN x).length = SN.length := rowN_len _ _ _ _ _
        by_cases hlt2 : i < SN.length
        · obtain ⟨VA, vc, rfl, -⟩ := own_sl hown rfl
          have HSQ := Lib.hid hsc
          have HOWN := Lib.hid hown
          clear hsc hown
          obtain ⟨bA, oA, rfl, hbA, hcA⟩ := (HA.out.below hbq) i hlt2
          have HTI := Lib.hid (rowN_take (p := p) (n := n) (x := x) (SN := SN) (RN := RN) hlt2)
          have HTIL := Lib.hid (take_len hrl hi)
          clear hrl
          obtain ⟨f, hf⟩ : ∃ f, f = polN SN RN (n - 1) i := ⟨_, rfl⟩
          have hfl : f.length ≤ 17 := by have h1 : f.length ≤ (n - 1) + 1 := by { rw [hf]; exact polN_len }; omega
          have HFP := Lib.hid (show ∀ y ∈ f, y < p by rw [hf]; exact polN_lt b0 HSP.out HRP.out _ i)
          rw [← hf] at HTI
          obtain ⟨T, hT⟩ : ∃ T, T = (RN.drop (i * (n - 1))).take (n - 1) := ⟨_, rfl⟩
          have hXn : nthN SN i < p := nthN_lt b0 HSP.out i
          have hrm := HRM.out i hlt2
          have ez : (n : Int) - 1 = 0 := by have := HKK.out; omega
          have e1 : (i : Int) * ((n : Int) - 1) = 0 := by rw [ez, Int.mul_zero]
          have e2 : ((i : Int) + 1) * ((n : Int) - 1) = 0 := by rw [ez, Int.mul_zero]
          clear ez
          have hTl : T.length = 0 := by rw [hT, List.length_take]; have := HKK.out; have := HK0.out; omega
          have hT0 : T = [] := List.eq_nil_of_length_eq_zero (by omega)
          have HCB := Lib.hid HOK.out.nil
          subst hT0
          have HPOL := Lib.hid (show [nthN SN i] ++ [] = f by { rw [hf]; unfold polN; rw [← hT] })
          clear hTl hT hf
          go_wp2_with (at_builtin; refine app_sl rfl (.tmp 64) (.tmp 73) rfl (base := wr.heap.size) (v := .slice (some ⟨wr.heap.size, 0, none⟩) 1 1) (S := [nthN SN i]) [] B cb rfl ((lit1_nats wr (nthN SN i)).own (Nat.le_refl _) (by unfold maxLen; simp)) rfl (NatsAt.nil _ _) (fun e => ⟨rfl, HCB.out e⟩) (.inl rfl) (by simp) (by simp) ?_; intro v6 w6 hown6 hb6; rw [HPOL.out] at hown6; obtain ⟨Fa, fc, rfl, hFN, hFS, hFb⟩ := own_sl hown6 rfl; have hb6' : Below wr.heap.size wr w6 := (below_of_alloc hb6 (Nat.le_refl _)); have HFN := Lib.hid hFN; clear hFN hFb hown6)
          have hz6 := hb6'.size
          have HPq6 := Lib.hid (HPq.out.below hb6')
          have HSQ6 := Lib.hid (HSQ.out.below hb6')
          have u0 := HPq6.out.c0
          have u1 := HSQ6.out.c1
          have u2 := HSQ6.out.c0
          have u3 := HSQ6.out.frozen 1
          have lS6 := HSQ6.out.lt
          have lP6 := HPq6.out.lt
          have HOWN6 := Lib.hid (own_below HOWN.out hb6')
          have HEV := Lib.hid (fun (W : World) (hb : Below w6.heap.size w6 W) => show Calls Tryd.prog 48 #[.int .i64 (p : Int), .slice Fa f.length fc, .int .i64 (x : Int)] W (RetB (.int .i64 (evN p f x : Nat)) W) from (refEval_any p x Fa f fc W b0 (by omega) (by omega) HFP.out (HFN.out.below hb) (by omega)).mono (by rintro e w1 ⟨rfl, rfl⟩; exact ⟨rfl, Below.refl _ _⟩))
          generalize evN p f x = y at *
          generalize hMM : (rowN p n SN RN x).take i = M at *
          have hml : M.length ≤ 2048 := by have := HTIL.out; omega
          have HMM := Lib.hid hMM
          clear y0 y1 y2 s0 s1 HOWN hMM
          go_wp2_with fail
          go_region_law (first
            | (refine step_refEval _ rfl (.tmp 78) (.tmp 79) (.tmp 80) _ rfl rfl rfl rfl (HEV.out _ (by (repeat (first | exact bl_refl _ | apply bl_drew | apply bl_alloc)))) ?_; intro w7 hb7; have hb7' : Below w6.heap.size w6 w7 := (below_undrew1 hb7); have l7 := Nat.lt_of_lt_of_le lS6 hb7'.size; have m0 := (hb7'.cell (p := ⟨w.heap.size, 0, none⟩) lP6).trans u0; have m1 := (hb7'.cell (p := ⟨wo.heap.size, 1, none⟩) lS6).trans u1; have m2 := (hb7'.frozen (p := ⟨wo.heap.size, 1, none⟩) lS6).trans u3)
            | (refine step_app_row _ rfl (.tmp 76) (.tmp 82) rfl w7 w5.heap.size (.slice VA M.length vc) M y rfl rfl ⟨rfl, rfl, rfl, rfl⟩ (own_below HOWN6.out hb7') (by omega) (by have := hb7'.size; omega) ?_; intro g' cap w8 hown8 hg8 hbW8 hat8 hb8; have n1 := (hb8.cell (p := ⟨wo.heap.size, 1, none⟩) hz5).trans m1; have n2 := (hb8.frozen (p := ⟨wo.heap.size, 1, none⟩) hz5).trans m2))
          all_goals
            have hc8 : ShCell w8 wo.heap.size x (.slice VA M.length vc) := (hb8.block wo.heap.size hz5).trans (HSQ6.out.below hb7')
            have hcz := hc8.set1 (.slice (some ⟨g', 0, none⟩) (M.length + 1) cap)
            have hoz := own_other hown8 ⟨wo.heap.size, 1, none⟩ (.slice (some ⟨g', 0, none⟩) (M.length + 1) cap) (fun b e => by have := (hown8.lt b e).1; dsimp only; omega)
            have hbz := (below_trans (below_trans hbq0 hb6') hb7').trans (hb8.mono (show wo.heap.size ≤ w5.heap.size by omega))
            have hzz := hbz.setCell (p := ⟨wo.heap.size, 1, none⟩) (Nat.le_refl _) (.slice (some ⟨g', 0, none⟩) (M.length + 1) cap)
            have hs8 := hb8.size
            have hs7 := hb7'.size
            have hz9 : w5.heap.size ≤ (w8.setCell ⟨wo.heap.size, 1, none⟩ (.slice (some ⟨g', 0, none⟩) (M.length + 1) cap)).heap.size := by simp [World.setCell]; omega
            have HZ := Lib.hid (And.intro hcz (And.intro hoz (And.intro hzz hz9)))
            clear hc8 hcz hoz hbz hzz hz9 hown8 n1 n2
            go_wp2_with fail
            go_roundw
            case rel => exact ⟨i + 1, _, by omega, by go_num, HZ.out.1, by rw [HTI.out, List.length_append]; exact HZ.out.2.1, HZ.out.2.2.1, HZ.out.2.2.2⟩
            case measure => simp [intOf]; omega
        · obtain rfl : i = SN.length := by omega
          rw [List.take_of_length_le (by rw [hrl]; exact Nat.le_refl _)] at hown
          clear hrl
          obtain ⟨VA, vc, rfl, hVN, hVS, hVb⟩ := own_sl hown rfl
          have HSQ := Lib.hid hsc
          clear hsc
          have hN9 : ShNew wo wr wo.heap.size x VA vc (rowN p n SN RN x) := ⟨HSQ.out, hVN, hVS, fun b off e => by have := hVb b off e; omega, Nat.le_refl _, hbq0⟩
          generalize rowN p n SN RN x = L at *
          have HN9 := Lib.hid hN9
          have hz9 := hN9.below.size
          obtain ⟨W, hW⟩ : ∃ W, W = wr.alloc (.cells #[.int .i64 (x : Int), .slice VA L.length vc] 47) := ⟨_, rfl⟩
          have hbW : Below wo.heap.size wo W := by rw [hW]; exact bl_alloc _ hN9.below
          have hWz : wr.heap.size ≤ W.heap.size := by rw [hW]; exact (below_alloc _ _).size
          obtain ⟨H, e1, e2, e3⟩ := (HR'.out.below hbW).ex
          have HE3 := Lib.hid (And.intro e1 (And.intro e2 e3))
          have hHl : H.length ≤ 16 := by rw [e2, HLK.out]; omega
          clear e2 e3 hN9 hVN hVS hVb hown
          subst hW
          go_wp2_with (at_builtin; refine app_hv rfl (.tmp 86) (.tmp 88) rfl (base := w4.heap.size) (H := H) (v := .slice OA k oc) ((x : Int), .slice VA L.length vc) rfl e1 rfl (heap_alloc_new _ _) rfl (by omega) (by omega) ?_; intro v4 w8 hown4 hg4 hb4 hv4)
          have hpl8 := (hbr.trans ((hbW.mono hsz).trans hb4))
          have HB4 := Lib.hid hpl8
          have HR4 := Lib.hid (RowsV.put HR'.out HN9.out hsz rfl HE3.out hown4 hg4 hv4 HTK.out)
          clear hown4 hg4 hv4 e1 hpl8
          go_roundw
          case rel => exact ⟨x, x + 1, hxh, rfl, by go_num, HR4.out, HB4.out⟩
          case measure => simp [intOf]; omega
    · obtain rfl : k = h := by omega
      have hX := HRd.out
      rw [List.take_of_length_le (by rw [deal_len]; exact Nat.le_refl _)] at hX
      have hz4 := hbw4.size
      have HX := Lib.hid (hX.mono (Q := fun b => w.heap.size ≤ b) (fun b _ hb => by omega))
      clear hX
      go_wp2_with fail
      go_ret2
      exact ⟨OA, oc, by { have e := (shL_len (dealN p n k SN RN)).trans (deal_len p n k SN RN); rw [e]; first | done | rfl }, HX.out, hbwo⟩
end Go.Proofs.YtkjpnhhkebbmdaaDoor
namespace Go.Proofs.YtkjpnhhkebbmdaaDoor
open Go.RowKit

theorem refDeal_made {p n h : Nat} {A B : Option Addr} {ca cb k j : Nat} {sec ran : List Nat} {w : World} (P : PlanN p n h) (hA : NatsAt w A sec) (hR : NatsAt w B ran) (hok : SlOK B cb ran)
    (hm : sec.length ≤ 2048) (hs : ∀ x ∈ sec, x < p) (hr : ∀ x ∈ ran, x < p) (hl : ran.length = sec.length * (n - 1)) (hl2 : ran.length ≤ 1048576) (hk : k = sec.length) (hj : j = ran.length) :
    Calls Tryd.prog 21 #[planV p n h, .slice A k ca, .slice B j cb] w (DealR (dealN p n h sec ran) h w) := by
  subst hk hj
  have key : Calls Tryd.prog 21 #[planV p n h, .slice A sec.length ca, .slice B ran.length cb] w (ShErr (shL (dealN p n h sec ran)) 0 w) := by
    rcases Nat.lt_or_ge n 2 with h1 | h1
    · exact refDeal_z p n h A B ca cb sec ran w P.pr P.p2 P.pv P.pl P.n1 (by have := P.n1; omega) P.nh (by have := P.h7; omega) P.hp hA hR hok.iok hs hr hl hm hl2
    · exact refDeal_k p n h A B ca cb sec ran w P.pr P.p2 P.pv P.pl P.n1 h1 P.nh (by have := P.h7; omega) P.hp hA hR hok.iok hs hr hl hm hl2
  refine key.mono ?_
  rintro e w' ⟨A', c', rfl, h1, h2⟩
  exact ⟨A', c', by rw [shL_len, deal_len], h1, h2⟩
theorem refRandom_nat (p n h q rl : Nat) (w : World) (hrl : rl = q * (n - 1)) (hn : 1 ≤ n) (hn2 : n ≤ 1000) (hq : q ≤ 1048576) :
    Calls Tryd.prog 24 #[planV p n h, .int .i64 (q : Int)] w (RetB (.int .i64 (rl : Int)) w) := by
  have := refRandom_any p n h q w (by omega) (by omega) (by omega) (by omega)
  rw [show (q : Int) * ((n : Int) - 1) = ((rl : Nat) : Int) from by rw [hrl, show ((n : Int) - 1) = ((n - 1 : Nat) : Int) by omega]; push_cast; rfl] at this
  exact this
/-- What a dealt secret is. -/
structure DealtN (p n h most : Nat) (sec ran : List Nat) : Prop where
  lo : 1 ≤ sec.length
  hi : sec.length ≤ most
  sp : ∀ x ∈ sec, x < p
  rp : ∀ x ∈ ran, x < p
  ln : ran.length = sec.length * (n - 1)
def DealtP (D p n h most : Nat) (w : World) (e : Ending) (w' : World) : Prop :=
  ∃ (A : Option Addr) (c : Nat) (sec : List Nat) (A' : Option Addr) (c' : Nat) (ran : List Nat) (R' : List Int), e = .returned (.tuple #[.slice A sec.length c, .slice A' h c']) ∧ DealtN p n h most sec ran ∧ Held w' D A c sec ∧ ShP (· ≠ D) w' A' c' (shL (dealN p n h sec ran)) ∧ DiceAt w' D R' ∧ w.grownBy w' (some D)

set_option maxRecDepth 100000 in
set_option maxHeartbeats 4000000 in
theorem dealt_any (D : Nat) (R : List Int) (p n h most : Nat) (w : World) (hd : DiceAt w D R) (P : PlanN p n h) (hm : 1 ≤ most) (hm2 : most ≤ 10) :
    Calls Tryd.prog 31 #[.pointer (some ⟨D, 0, none⟩), planV p n h, .int .i64 (most : Int)] w (DealtP D p n h most w) := by
  have HPN := Lib.hid P
  have h1 := P.p1
  have hp2 : p ≤ 2147483648 := by have := P.p2; omega
  have hn1 := P.n1
  have hn7 : n ≤ 7 := Nat.le_trans P.nh P.h7
  have hDl := hd.lt
  clear P
  go_enter Tryd.func31, Tryd.ntmps31
  go_wp2_with fail
  refine gen_world fun w4 hw4 => ?_
  have hpc : PlanCell w4 w.heap.size p n h := by rw [hw4]; exact PlanCell.new _ _ _ rfl
  have hb4 : Below w.heap.size w w4 := by rw [hw4]; exact below_alloc _ _
  have hd4 := hd.below hb4
  have hg4 : w.grownBy w4 (some D) := grown_of_below hb4
  have hxD : w.heap.size ≠ D := by omega
  have p0 := hpc.c0
  have p1 := hpc.c1
  have p2 := hpc.c2
  have lx := hpc.lt
  have HPC := Lib.hid hpc
  clear hw4 hpc hd
  generalize w.heap.size = px at *
  go_region_held3 (fun w' => w'.cell? ⟨px, 0, none⟩ = some (.int .i64 (p : Int)) ∧ w'.cell? ⟨px, 1, none⟩ = some (.int .i64 (n : Int)) ∧ w'.cell? ⟨px, 2, none⟩ = some (.int .i64 (h : Int))) (first | go_keep)
      (first
        | (go_at_call 17; refine (next_nat D _ most _ (by exact hd4) (by omega) (by omega)).mono ?_; rintro e w5 ⟨m0, rfl, hm0, hD5, hg5⟩; have hg5' : w4.grownBy w5 (some D) := (grown_undrew hg5); have hgw5 := grown_trans hg4 hg5'; have HP5 := Lib.hid (HPC.out.mv hg5' hxD); have q0 := HP5.out.c0; have q1 := HP5.out.c1; have q2 := HP5.out.c2; have ew : IntKind.i64.wrap (1 + (m0:Int)) = 1 + (m0:Int) := (IntWalk.i64_in _ (by omega)))
        | (go_at_call 16; refine (elements_at D _ p (1 + m0) _ _ (by omega) hD5 h1 hp2 (by omega)).mono ?_; intro e w6 he; obtain ⟨SA, sc, sec, R6, rfl, hsl, hsp, hS, hD6, hg6⟩ := elems_held hD5.lt he; have HSL := Lib.hid hsl; clear hsl; have hgw6 := grown_trans hgw5 hg6; have HP6 := Lib.hid (HP5.out.mv hg6 hxD); have r0 := HP6.out.c0; have r1 := HP6.out.c1; have r2 := HP6.out.c2))
  have HSEC := Lib.hid hS
  have HSP := Lib.hid hsp
  have hsl1 : sec.length ≤ most := by have := HSL.out; omega
  have hsl2 : 1 ≤ sec.length := by have := HSL.out; omega
  have lx6 := HP6.out.lt
  have hlD6 := hD6.lt
  clear he hS hsp hg6 hD5 hg5 hg5' q0 q1 q2 p0 p1 p2 HP5 HPC HSL hm0 ew hgw5 hg4 hb4 hd4
  go_wp2_with fail
  obtain ⟨rl, hrl⟩ : ∃ rl, rl = sec.length * (n - 1) := ⟨_, rfl⟩
  have hrl2 : rl ≤ 1048576 := by rw [hrl]; have := Nat.mul_le_mul hsl1 (show n - 1 ≤ 7 by omega); omega
  have HRN := Lib.hid (fun (W : World) => refRandom_nat p n h sec.length rl W hrl hn1 (by omega) (by omega))
  have HRL := Lib.hid hrl
  clear hrl
  go_region_held3 (fun w' => w'.cell? ⟨px, 0, none⟩ = some (.int .i64 (p : Int)) ∧ w'.cell? ⟨px, 1, none⟩ = some (.int .i64 (n : Int)) ∧ w'.cell? ⟨px, 2, none⟩ = some (.int .i64 (h : Int))) (first | go_keep)
      (first
        | (go_at_call 24; refine ret_below (HRN.out _) ?_; intro w7 hb7; have hb7' : Below w6.heap.size w6 w7 := (below_undrew1 hb7); have hD7 := hD6.below hb7'; have hgw7 := grown_trans hgw6 (grown_of_below hb7' : w6.grownBy w7 (some D)); have HP7 := Lib.hid (HP6.out.below hb7'); have q0 := HP7.out.c0; have q1 := HP7.out.c1; have q2 := HP7.out.c2)
        | (go_at_call 16; refine (elements_any D _ p rl _ hD7 h1 hp2 hrl2).mono ?_; intro e w8 he; obtain ⟨RA, rc, ran, R8, rfl, hrnl, hrp, hR, hD8, hg8⟩ := elems_held hD7.lt he; have HRNL := Lib.hid hrnl; clear hrnl; have hgw8 := grown_trans hgw7 hg8; have HP8 := Lib.hid (HP7.out.mv hg8 hxD); have s0 := HP8.out.c0; have s1 := HP8.out.c1; have s2 := HP8.out.c2; have HSEC8 := Lib.hid ((HSEC.out.below hb7').mv hg8))
        | (go_at_call 21; refine (refDeal_made HPN.out HSEC8.out.nats hR.nats hR.ok (by omega) HSP.out hrp (by exact HRNL.out.trans HRL.out) (by have := HRNL.out; omega) rfl rfl).mono ?_; rintro e w9 ⟨NA, nc, rfl, hN, hb9⟩; have hD9 := hD8.below hb9; have hgw9 := grown_trans hgw8 (grown_of_below hb9 : w8.grownBy w9 (some D)); have HP9 := Lib.hid (HP8.out.below hb9); have t0 := HP9.out.c0; have t1 := HP9.out.c1; have t2 := HP9.out.c2))
  have HX := Lib.hid (show DealtP D p n h most w (.returned (.tuple #[.slice SA sec.length sc, .slice NA h nc])) w9 from ⟨SA, sc, sec, NA, nc, ran, _, rfl, ⟨hsl2, hsl1, HSP.out, hrp, HRNL.out.trans HRL.out⟩, HSEC8.out.below hb9, hN.away hD8.lt, hD9, hgw9⟩)
  clear he hrp hR hD8 hg8 hD7 hD6 HP8 HP7 HP6 HSEC8 HSEC q0 q1 q2 s0 s1 s2 r0 r1 r2 hb9 hb7 hb7' HRN hN hD9 hgw9 hgw8 hgw7 hgw6
  go_wp2_with fail
  go_ret2
  exact HX.out
end Go.Proofs.YtkjpnhhkebbmdaaDoor
namespace Go.Proofs.YtkjpnhhkebbmdaaDoor
open Go.RowKit

theorem refElems_any (p : Int) (A : Option Addr) (L : List Int) (c : Nat) (w : World) (hv : primeV p = true) (hI : IntsAt w A L) (hl : L.length ≤ 1099511627776) :
    Calls Tryd.prog 47 #[.int .i64 p, .slice A L.length c] w (Ret (.bool (inside p L)) w) := by
  have := elems_ref A L c p w hI hl
  unfold elemsI at this
  rw [hv, Bool.and_true] at this
  exact this
theorem IntsAt.belowW {w w' : World} {A : Option Addr} {L : List Int} (h : IntsAt w A L) (hb : Below w.heap.size w w') : IntsAt w' A L := h.below hb
set_option maxRecDepth 100000 in
set_option maxHeartbeats 1000000 in
theorem refDeal_inv (p n h : Int) (A B : Option Addr) (ca cb : Nat) (sec ran : List Int) (w : World) (hv : primeV p = validI p) (hA : IntsAt w A sec) (hR : IntsAt w B ran) (hl1 : sec.length ≤ 1048576) (hl2 : ran.length ≤ 1048576) (hpl : plB p n h = false) :
    Calls Tryd.prog 21 #[planV p n h, .slice A sec.length ca, .slice B ran.length cb] w (ShErr [] 1 w) := by
  have HVA := Lib.hid (fun (W : World) => show Calls Tryd.prog 19 #[planV p n h] W (RetB (.bool false) W) from by have := refValid_plan p n h W hv; rw [hpl] at this; exact this)
  clear hA hR hv hpl
  go_enter Tryd.func21, Tryd.ntmps21
  go_wp2_with fail
  refine ret_below (HVA.out _) ?_
  intro w1 hb1
  have hbw1 := below_trans (below_alloc _ _) hb1
  have HP := Lib.hid ((PlanCell.new (w := w) p n h rfl).below hb1)
  have p0 := HP.out.c0
  have p1 := HP.out.c1
  have p2 := HP.out.c2
  go_wp2_with fail
  go_ret2
  exact ShErr.nil _ hbw1
set_option maxRecDepth 100000 in
set_option maxHeartbeats 1000000 in
theorem refDeal_big (p n h : Int) (A B : Option Addr) (ca cb : Nat) (sec ran : List Int) (w : World) (hv : primeV p = validI p) (hA : IntsAt w A sec) (hR : IntsAt w B ran) (hl1 : sec.length ≤ 1048576) (hl2 : ran.length ≤ 1048576) (hpl : plB p n h = true) (hbig : 2048 < sec.length) :
    Calls Tryd.prog 21 #[planV p n h, .slice A sec.length ca, .slice B ran.length cb] w (ShErr [] 3 w) := by
  have HVA := Lib.hid (fun (W : World) => show Calls Tryd.prog 19 #[planV p n h] W (RetB (.bool true) W) from by have := refValid_plan p n h W hv; rw [hpl] at this; exact this)
  have t1 : decide (2048 < (sec.length : Int)) = true := decide_eq_true (by omega)
  clear hA hR hv hpl
  go_enter Tryd.func21, Tryd.ntmps21
  go_wp2_with fail
  refine ret_below (HVA.out _) ?_
  intro w1 hb1
  have hbw1 := below_trans (below_alloc _ _) hb1
  have HP := Lib.hid ((PlanCell.new (w := w) p n h rfl).below hb1)
  have p0 := HP.out.c0
  have p1 := HP.out.c1
  have p2 := HP.out.c2
  go_wp2_with fail
  go_ret2
  exact ShErr.nil _ hbw1
set_option maxRecDepth 100000 in
set_option maxHeartbeats 1000000 in
theorem refDeal_sec (p n h : Int) (A B : Option Addr) (ca cb : Nat) (sec ran : List Int) (w : World) (hv : primeV p = validI p) (hA : IntsAt w A sec) (hR : IntsAt w B ran) (hl1 : sec.length ≤ 1048576) (hl2 : ran.length ≤ 1048576) (hpl : plB p n h = true) (hbig : ¬ 2048 < sec.length) (hi : inside p sec = false) :
    Calls Tryd.prog 21 #[planV p n h, .slice A sec.length ca, .slice B ran.length cb] w (ShErr [] 2 w) := by
  have HVA := Lib.hid (fun (W : World) => show Calls Tryd.prog 19 #[planV p n h] W (RetB (.bool true) W) from by have := refValid_plan p n h W hv; rw [hpl] at this; exact this)
  have hpv : primeV p = true := plB_pv hpl hv
  have t1 : decide (2048 < (sec.length : Int)) = false := decide_eq_false (by omega)
  have HES := Lib.hid (fun (W : World) (hb : Below w.heap.size w W) => show Calls Tryd.prog 47 #[.int .i64 p, .slice A sec.length ca] W (Ret (.bool false) W) from by have := refElems_any p A sec ca W hpv (hA.below hb) (by omega); rw [hi] at this; exact this)
  clear hA hR hv hpl hpv hi
  go_enter Tryd.func21, Tryd.ntmps21
  go_wp2_with fail
  refine ret_below (HVA.out _) ?_
  intro w1 hb1
  have hbw1 := below_trans (below_alloc _ _) hb1
  have HP := Lib.hid ((PlanCell.new (w := w) p n h rfl).below hb1)
  have p0 := HP.out.c0
  have p1 := HP.out.c1
  have p2 := HP.out.c2
  go_wp2_with fail
  refine ret_pure (HES.out _ hbw1) ?_
  go_wp2_with fail
  go_ret2
  exact ShErr.nil _ hbw1
set_option maxRecDepth 100000 in
set_option maxHeartbeats 1000000 in
theorem refDeal_ran (p n h : Int) (A B : Option Addr) (ca cb : Nat) (sec ran : List Int) (w : World) (hv : primeV p = validI p) (hA : IntsAt w A sec) (hR : IntsAt w B ran) (hl1 : sec.length ≤ 1048576) (hl2 : ran.length ≤ 1048576) (hpl : plB p n h = true) (hbig : ¬ 2048 < sec.length) (hi : inside p sec = true) (hj : inside p ran = false) :
    Calls Tryd.prog 21 #[planV p n h, .slice A sec.length ca, .slice B ran.length cb] w (ShErr [] 2 w) := by
  have HVA := Lib.hid (fun (W : World) => show Calls Tryd.prog 19 #[planV p n h] W (RetB (.bool true) W) from by have := refValid_plan p n h W hv; rw [hpl] at this; exact this)
  have hpv : primeV p = true := plB_pv hpl hv
  have t1 : decide (2048 < (sec.length : Int)) = false := decide_eq_false (by omega)
  have HES := Lib.hid (fun (W : World) (hb : Below w.heap.size w W) => show Calls Tryd.prog 47 #[.int .i64 p, .slice A sec.length ca] W (Ret (.bool true) W) from by have := refElems_any p A sec ca W hpv (hA.below hb) (by omega); rw [hi] at this; exact this)
  have HER := Lib.hid (fun (W : World) (hb : Below w.heap.size w W) => show Calls Tryd.prog 47 #[.int .i64 p, .slice B ran.length cb] W (Ret (.bool false) W) from by have := refElems_any p B ran cb W hpv (hR.below hb) (by omega); rw [hj] at this; exact this)
  clear hA hR hv hpl hpv hi hj
  go_enter Tryd.func21, Tryd.ntmps21
  go_wp2_with fail
  refine ret_below (HVA.out _) ?_
  intro w1 hb1
  have hbw1 := below_trans (below_alloc _ _) hb1
  have HP := Lib.hid ((PlanCell.new (w := w) p n h rfl).below hb1)
  have p0 := HP.out.c0
  have p1 := HP.out.c1
  have p2 := HP.out.c2
  go_wp2_with fail
  refine ret_pure (HES.out _ hbw1) ?_
  go_wp2_with fail
  refine ret_pure (HER.out _ hbw1) ?_
  go_wp2_with fail
  go_ret2
  exact ShErr.nil _ hbw1
set_option maxRecDepth 100000 in
set_option maxHeartbeats 1000000 in
theorem refDeal_len (p n h : Int) (A B : Option Addr) (ca cb : Nat) (sec ran : List Int) (w : World) (hv : primeV p = validI p) (hA : IntsAt w A sec) (hR : IntsAt w B ran) (hl1 : sec.length ≤ 1048576) (hl2 : ran.length ≤ 1048576) (hpl : plB p n h = true) (hbig : ¬ 2048 < sec.length) (hi : inside p sec = true) (hj : inside p ran = true) (hn1 : 1 ≤ n) (hn2 : n ≤ 1048576) (hle : ¬ (ran.length : Int) = sec.length * (n - 1)) :
    Calls Tryd.prog 21 #[planV p n h, .slice A sec.length ca, .slice B ran.length cb] w (ShErr [] 2 w) := by
  have HVA := Lib.hid (fun (W : World) => show Calls Tryd.prog 19 #[planV p n h] W (RetB (.bool true) W) from by have := refValid_plan p n h W hv; rw [hpl] at this; exact this)
  have hpv : primeV p = true := plB_pv hpl hv
  have t1 : decide (2048 < (sec.length : Int)) = false := decide_eq_false (by omega)
  have HES := Lib.hid (fun (W : World) (hb : Below w.heap.size w W) => show Calls Tryd.prog 47 #[.int .i64 p, .slice A sec.length ca] W (Ret (.bool true) W) from by have := refElems_any p A sec ca W hpv (hA.below hb) (by omega); rw [hi] at this; exact this)
  have HER := Lib.hid (fun (W : World) (hb : Below w.heap.size w W) => show Calls Tryd.prog 47 #[.int .i64 p, .slice B ran.length cb] W (Ret (.bool true) W) from by have := refElems_any p B ran cb W hpv (hR.below hb) (by omega); rw [hj] at this; exact this)
  have HRN := Lib.hid (fun (W : World) => refRandom_any p n h sec.length W (by omega) (by omega) (by omega) (by omega))
  have t2 : ((ran.length : Int) != (sec.length : Int) * (n - 1)) = true := by simp [hle]
  clear hA hR hv hpl hpv hi hj hle
  go_enter Tryd.func21, Tryd.ntmps21
  go_wp2_with fail
  refine ret_below (HVA.out _) ?_
  intro w1 hb1
  have hbw1 := below_trans (below_alloc _ _) hb1
  have HP := Lib.hid ((PlanCell.new (w := w) p n h rfl).below hb1)
  have p0 := HP.out.c0
  have p1 := HP.out.c1
  have p2 := HP.out.c2
  go_wp2_with fail
  refine ret_pure (HES.out _ hbw1) ?_
  go_wp2_with fail
  refine ret_pure (HER.out _ hbw1) ?_
  go_wp2_with fail
  refine ret_below (HRN.out _) ?_
  intro w4 hb4
  have hbw4 := below_trans hbw1 hb4
  go_wp2_with fail
  go_ret2
  exact ShErr.nil _ hbw4
/-- The document's Deal. -/
theorem refDealS_any (p n h : Int) (A B : Option Addr) (ca cb : Nat) (sec ran : List Int) (w : World) (hv : primeV p = validI p) (hA : IntsAt w A sec) (hR : IntsAt w B ran) (hl1 : sec.length ≤ 1048576) (hl2 : ran.length ≤ 1048576) (hok : IOK B cb ran.length) :
    Calls Tryd.prog 21 #[planV p n h, .slice A sec.length ca, .slice B ran.length cb] w (ShErr (shL (dlL p n h sec ran)) (dlE p n h sec ran) w) := by
  rcases hpl : plB p n h with _ | _
  · have e := dlE_pl (sec := sec) (ran := ran) hpl
    rw [dlL_no (by rw [e]; decide), e]
    exact refDeal_inv p n h A B ca cb sec ran w hv hA hR hl1 hl2 hpl
  · by_cases hbig : 2048 < sec.length
    · have e := dlE_big (sec := sec) (ran := ran) hpl hbig
      rw [dlL_no (by rw [e]; decide), e]
      exact refDeal_big p n h A B ca cb sec ran w hv hA hR hl1 hl2 hpl hbig
    · have hPP : PlanP p n h := of_decide_eq_true hpl
      obtain ⟨b1, b2, b3, b4, b5⟩ := hPP
      by_cases hall : inside p sec = true ∧ inside p ran = true ∧ (ran.length : Int) = sec.length * (n - 1)
      · have e := dlE_ok hpl hbig hall
        obtain ⟨q, rfl, hq, hq2⟩ := plan_prime (of_decide_eq_true hpl) hv
        obtain ⟨n', rfl⟩ := Int.eq_ofNat_of_zero_le (show 0 ≤ n by omega)
        obtain ⟨h', rfl⟩ := Int.eq_ofNat_of_zero_le (show 0 ≤ h by omega)
        obtain ⟨e1, e3⟩ := inside_nat hall.1
        obtain ⟨e2, e4⟩ := inside_nat hall.2.1
        have hd : dlL (q : Int) n' h' sec ran = dealN q n' h' (sec.map Int.toNat) (ran.map Int.toNat) := by unfold dlL; rw [if_pos e]; rfl
        rw [hd, e]
        have hs1 : (sec.map Int.toNat).length = sec.length := List.length_map _
        have hs2 : (ran.map Int.toNat).length = ran.length := List.length_map _
        have hAn : NatsAt w A (sec.map Int.toNat) := IntsAt.nats (by rw [e1]; exact hA)
        have hRn : NatsAt w B (ran.map Int.toNat) := IntsAt.nats (by rw [e2]; exact hR)
        have hle : (ran.map Int.toNat).length = (sec.map Int.toNat).length * (n' - 1) := by
          rw [hs1, hs2]
          have h1 := hall.2.2
          rw [show (n' : Int) - 1 = ((n' - 1 : Nat) : Int) by omega] at h1
          exact Int.ofNat_inj.1 (by push_cast; exact h1)
        rcases Nat.lt_or_ge n' 2 with h1 | h1
        · have := refDeal_z q n' h' A B ca cb (sec.map Int.toNat) (ran.map Int.toNat) w hq hq2 hv hpl (by omega) (by omega) (by omega) (by omega) (by omega) hAn hRn (by rw [hs2]; exact hok) e3 e4 hle (by omega) (by omega)
          rw [hs1, hs2] at this
          exact this
        · have := refDeal_k q n' h' A B ca cb (sec.map Int.toNat) (ran.map Int.toNat) w hq hq2 hv hpl (by omega) h1 (by omega) (by omega) (by omega) hAn hRn (by rw [hs2]; exact hok) e3 e4 hle (by omega) (by omega)
          rw [hs1, hs2] at this
          exact this
      · have e := dlE_bad hpl hbig hall
        rw [dlL_no (by rw [e]; decide), e]
        rcases hi : inside p sec with _ | _
        · exact refDeal_sec p n h A B ca cb sec ran w hv hA hR hl1 hl2 hpl hbig hi
        · rcases hj : inside p ran with _ | _
          · exact refDeal_ran p n h A B ca cb sec ran w hv hA hR hl1 hl2 hpl hbig hi hj
          · exact refDeal_len p n h A B ca cb sec ran w hv hA hR hl1 hl2 hpl hbig hi hj b1 (by omega) (fun H => hall ⟨hi, hj, H⟩)
end Go.Proofs.YtkjpnhhkebbmdaaDoor
namespace Go.Proofs.YtkjpnhhkebbmdaaDoor
open Go.RowKit

set_option maxRecDepth 100000 in
set_option maxHeartbeats 4000000 in
theorem same_sh {P P' : Nat → Prop} (A A' : Option Addr) (S : List Shr) (c c' k k' : Nat) (w : World) (hA : ShP P w A c S) (hA' : ShP P' w A' c' S) (hsh : Short S) (hl : S.length ≤ 1048576) (hk : k = S.length) (hk' : k' = S.length) :
    Calls Tryd.prog 22 #[.slice A k c, .slice A' k' c'] w (RetB (.bool true) w) := by
  subst hk
  have hkk : k' = S.length := hk'
  subst hkk
  have HA := Lib.hid hA
  have HA' := Lib.hid hA'
  have HSH := Lib.hid hsh
  have t0 : ((S.length : Int) != (S.length : Int)) = false := by simp
  clear hA hA' hsh hk'
  go_enter Tryd.func22, Tryd.ntmps22
  go_wp2_with fail
  go_loopw [14] (fun i wr => ∃ k : Nat, k ≤ S.length ∧ i = .int .i64 k ∧ Below w.heap.size w wr) (fun i _ => S.length - (intOf i).toNat)
  case atStart => exact ⟨0, Nat.zero_le _, rfl, Below.refl _ _⟩
  case round =>
    obtain ⟨k, hk, rfl, hbr⟩ := hrel
    by_cases hlt : k < S.length
    · obtain ⟨b, off, B, c1, rfl, hb, -, x0, x1, x2⟩ := (HA.out.below hbr).at_ k hlt
      obtain ⟨b', off', B', c1', rfl, hb', -, y0, y1, y2⟩ := (HA'.out.below hbr).at_ k hlt
      have hvl := HSH.out k hlt
      have i1 : (0 : Int) ≤ (k : Int) := by omega
      have i2 : (k : Int) < (S.length : Int) := by omega
      generalize vS S k = L at *
      generalize hS S k = x at *
      have HX := Lib.hid x2
      have HY := Lib.hid y2
      have t1 : (x != x) = false := by simp
      clear x2 y2
      go_wp2_with fail
      refine gen_world fun w1 hw1 => ?_
      have hb1 : Below wr.heap.size wr w1 := by rw [hw1]; exact below_alloc _ _
      have hsc : ShCell w1 wr.heap.size x (.slice B L.length c1) := by rw [hw1]; exact ShCell.new _ _ rfl
      have s0 := hsc.c0
      have s1 := hsc.c1
      have z0 := (hb1.cell (p := ⟨b', off' + k * 2, none⟩) hb').trans y0
      have z1 := (hb1.cell (p := ⟨b', off' + k * 2 + 1, none⟩) hb').trans y1
      have HX1 := Lib.hid ((HX.out.keep (Kept.below hb1)).ints)
      have HY1 := Lib.hid ((HY.out.keep (Kept.below hb1)).ints)
      have hbw := hbr.trans (hb1.mono hbr.size)
      clear hw1 hsc x0 x1 y0 y1
      go_quiet ((go_at_call 28; exact Calls.quiet_of_same (same_refl B B' L c1 c1' _ HX1.out HY1.out (by omega))))
      go_wp2_with fail
      go_roundw
      case rel => exact ⟨k + 1, by omega, by go_num, below_drewN hbw _⟩
      case measure => simp [intOf]; omega
    · go_wp2_with fail
      go_ret
      exact RetB.bool rfl hbr

/-! ### Sums of two lists in order -/
theorem fmul_one {p x : Nat} (h : x < p) : fmul p 1 x = x := by unfold fmul; rw [Nat.one_mul, Nat.mod_eq_of_lt h]
theorem lin_sumV {p : Nat} (hp : 1 ≤ p) {L M : List Nat} (h : L.length = M.length) : linN p L M 1 = sumV p L M 1 := by
  refine extN (by rw [linN_len, sumV_len h, h]; simp) fun i hi => ?_
  rw [linN_len] at hi
  rw [linN_nth hi, sumV_nth hp h (by omega)]
def InOrd (N : List ShN) : Prop := ∀ k, k < N.length → hN N k = k + 1
theorem deal_ord (p n h : Nat) (sec ran : List Nat) : InOrd (dealN p n h sec ran) := fun k hk => by
  rw [deal_len] at hk
  unfold dealN
  rw [(dealtT_at hk).1]
/-- Each share of N and the one of M at the same place. -/
def plusT (p : Nat) (N M : List ShN) : List ShN := (List.range N.length).map fun k => (hN N k, linN p (vN N k) (vN M k) 1)
theorem plusT_len (p : Nat) (N M : List ShN) : (plusT p N M).length = N.length := by simp [plusT]
theorem plusT_at {p k : Nat} {N M : List ShN} (h : k < N.length) : hN (plusT p N M) k = hN N k ∧ vN (plusT p N M) k = linN p (vN N k) (vN M k) 1 := by
  simp [plusT, hN, vN, List.getD_eq_getElem?_getD, h]
theorem plusT_ord {p : Nat} {N M : List ShN} (h : InOrd N) : InOrd (plusT p N M) := fun k hk => by
  rw [plusT_len] at hk
  rw [(plusT_at hk).1]; exact h k hk
/-- What is known of shares of a list that all holders have, in order. -/
structure Full (p n h : Nat) (sec : List Nat) (N : List ShN) : Prop where
  made : Made p n h sec N
  ord : InOrd N
  len : N.length = h
theorem Full.deal {p n h : Nat} {sec ran : List Nat} (P : PlanN p n h) (hs : ∀ x ∈ sec, x < p) (hr : ∀ x ∈ ran, x < p) : Full p n h sec (dealN p n h sec ran) :=
  ⟨deal_Made P hs hr, deal_ord _ _ _ _ _, deal_len _ _ _ _ _⟩
theorem Made.good {p n h : Nat} {sec : List Nat} {N : List ShN} (H : Made p n h sec N) (hp : 1 ≤ p) (hm : sec.length ≤ 2048) : GoodN p h N := by
  obtain ⟨F, h1, h2, h3⟩ := H.ex
  exact h1.good hp hm
theorem Made.vlen {p n h : Nat} {sec : List Nat} {N : List ShN} (H : Made p n h sec N) {k : Nat} (hk : k < N.length) : (vN N k).length = sec.length := by
  obtain ⟨F, h1, h2, h3⟩ := H.ex
  rw [(h1.at_ hk).2.2]; simp
theorem plus_add {p : Nat} {N M : List ShN} (hp : 1 ≤ p) (hl : ∀ k, k < N.length → (vN N k).length = (vN M k).length) : plusT p N M = addT p 1 N M := by
  unfold plusT addT
  refine List.map_congr_left fun k hk => ?_
  have hk := List.mem_range.1 hk
  rw [lin_sumV hp (hl k hk)]
theorem Full.plus {p n h : Nat} {a b : List Nat} {N M : List ShN} (P : PlanN p n h) (H : Full p n h a N) (K : Full p n h b M) (hab : a.length = b.length) : Full p n h (linN p a b 1) (plusT p N M) := by
  have hl : M.length = N.length := K.len.trans H.len.symm
  have e : plusT p N M = addT p 1 N M := plus_add P.p1 (fun k hk => by rw [H.made.vlen hk, K.made.vlen (by omega), hab])
  refine ⟨by rw [e]; exact H.made.add P.p1 K.made hab hl (fun k hk => by rw [H.ord k hk, K.ord k (by omega)]), plusT_ord H.ord, by rw [plusT_len, H.len]⟩
theorem lin_zero {p : Nat} {a : List Nat} (h : ∀ x ∈ a, x < p) : linN p a (List.replicate a.length 0) 1 = a := by
  refine extN (by rw [linN_len]; simp) fun i hi => ?_
  rw [linN_len] at hi
  rw [linN_nth hi]
  have hi' : i < a.length := by simpa using hi
  have : nthN (List.replicate a.length 0) i = 0 := by simp [nthN, List.getD_eq_getElem?_getD, hi']
  rw [this]
  unfold fadd fmul
  rw [Nat.mul_zero, Nat.zero_mod, Nat.add_zero, Nat.mod_eq_of_lt (h _ (nthN_mem hi'))]
end Go.Proofs.YtkjpnhhkebbmdaaDoor
namespace Go.Proofs.YtkjpnhhkebbmdaaDoor
open Go.RowKit

attribute [local go_sem high] sliced_low
/-- The numbers of such a plan are no great ones. -/
structure AnyB (p n h : Int) : Prop where
  p1 : -7 ≤ p
  p2 : p ≤ 1073741827
  n1 : -1 ≤ n
  n2 : n ≤ 1073741827
  h1 : 0 ≤ h
  h2 : h ≤ 1073741827
def AnyR (D : Nat) (w : World) (e : Ending) (w' : World) : Prop := ∃ (p n h : Int) (R' : List Int), e = .returned (planV p n h) ∧ AnyB p n h ∧ DiceAt w' D R' ∧ w.grownBy w' (some D)
def litP : List Int := [0, 1, 4, 9, -7, 1073741824, 1073741827, 500000004]
theorem litP_bd (k : Nat) (hk : k < 8) : -7 ≤ nth litP k ∧ nth litP k ≤ 1073741827 := by
  have : ∀ k, k < 8 → -7 ≤ nth litP k ∧ nth litP k ≤ 1073741827 := by decide
  exact this k hk
theorem lit_bd {L : List Int} {lo hi : Int} (h : ∀ x ∈ L, lo ≤ x ∧ x ≤ hi) {k : Nat} (hk : k < L.length) : lo ≤ nth L k ∧ nth L k ≤ hi := by rw [nth_eq hk]; exact h _ (List.getElem_mem hk)
theorem PlanCell.set0 {w : World} {x : Nat} {p n h : Int} (H : PlanCell w x p n h) (y : Int) : PlanCell (w.setCell ⟨x, 0, none⟩ (.int .i64 y)) x y n h := by
  unfold PlanCell at H ⊢; simp [World.setCell, Array.getElem?_modify, H]
theorem PlanCell.set1 {w : World} {x : Nat} {p n h : Int} (H : PlanCell w x p n h) (y : Int) : PlanCell (w.setCell ⟨x, 1, none⟩ (.int .i64 y)) x p y h := by
  unfold PlanCell at H ⊢; simp [World.setCell, Array.getElem?_modify, H]
theorem PlanCell.set2 {w : World} {x : Nat} {p n h : Int} (H : PlanCell w x p n h) (y : Int) : PlanCell (w.setCell ⟨x, 2, none⟩ (.int .i64 y)) x p n y := by
  unfold PlanCell at H ⊢; simp [World.setCell, Array.getElem?_modify, H]
theorem PlanCell.other {w : World} {x : Nat} {p n h : Int} (H : PlanCell w x p n h) (q : Addr) (u : Value) (hq : x ≠ q.block) : PlanCell (w.setCell q u) x p n h :=
  H.keep (Below.heap_setCell w q u x hq)

/-- What stands while such a plan is made. -/
structure ApW (w0 w : World) (D r x : Nat) (R : List Int) (p n h : Int) : Prop where
  dice : DiceAt w D R
  grown : w0.grownBy w (some D)
  r0 : PlanCell w r 0 0 0
  x0 : PlanCell w x p n h
  rlo : w0.heap.size ≤ r
  xlo : w0.heap.size ≤ x
  ne : r ≠ x
theorem ApW.dlt {w0 w : World} {D r x : Nat} {R : List Int} {p n h : Int} (H : ApW w0 w D r x R p n h) (hD : D < w0.heap.size) : D ≠ r ∧ D ≠ x := ⟨by have := H.rlo; omega, by have := H.xlo; omega⟩
theorem ApW.mv {w0 w w' : World} {D r x : Nat} {R R' : List Int} {p n h : Int} (H : ApW w0 w D r x R p n h) (hD : D < w0.heap.size) (hd : DiceAt w' D R') (hg : w.grownBy w' (some D)) : ApW w0 w' D r x R' p n h :=
  ⟨hd, grown_trans H.grown hg, H.r0.keep (hg.block r H.r0.lt (fun e => by injection e with e; have := H.rlo; omega)), H.x0.keep (hg.block x H.x0.lt (fun e => by injection e with e; have := H.xlo; omega)), H.rlo, H.xlo, H.ne⟩
theorem ApW.alloc {w0 w : World} {D r x : Nat} {R : List Int} {p n h : Int} (H : ApW w0 w D r x R p n h) (o : Obj) : ApW w0 (w.alloc o) D r x R p n h :=
  ⟨H.dice.alloc o, grown_trans H.grown (grown_of_below (below_alloc w o)), H.r0.alloc o, H.x0.alloc o, H.rlo, H.xlo, H.ne⟩
theorem ApW.set {w0 w w' : World} {D r x : Nat} {R : List Int} {p n h p' n' h' : Int} (H : ApW w0 w D r x R p n h) (hD : D < w0.heap.size) (j : Nat) (y : Int) (hw : w' = w.setCell ⟨x, j, none⟩ (.int .i64 y)) (hx : PlanCell w' x p' n' h') : ApW w0 w' D r x R p' n' h' := by
  subst hw
  exact ⟨H.dice.setCell _ _ (by have := H.xlo; show D < x; omega), grown_set H.grown _ _ H.xlo, H.r0.other _ _ H.ne, hx, H.rlo, H.xlo, H.ne⟩
def setQ (w : World) (x : Nat) (p n h : Int) : World := ((w.setCell ⟨x, 0, none⟩ (.int .i64 p)).setCell ⟨x, 1, none⟩ (.int .i64 n)).setCell ⟨x, 2, none⟩ (.int .i64 h)
theorem ApW.fin {w0 w : World} {D r x : Nat} {R : List Int} {p n h : Int} (H : ApW w0 w D r x R p n h) (hD : D < w0.heap.size) :
    DiceAt (setQ w r p n h) D R ∧ w0.grownBy (setQ w r p n h) (some D) ∧ PlanCell (setQ w r p n h) r p n h := by
  have hr := H.rlo
  refine ⟨((H.dice.setCell _ _ (by show D < r; omega)).setCell _ _ (by show D < r; omega)).setCell _ _ (by show D < r; omega), grown_set (grown_set (grown_set H.grown _ _ hr) _ _ hr) _ _ hr, H.r0.fill p n h⟩

theorem finA {w0 w : World} {D r : Nat} {R : List Int} {p n h : Int} (H : DiceAt w D R ∧ w0.grownBy w (some D) ∧ PlanCell w r p n h) (o : Obj) : DiceAt (w.alloc o) D R ∧ w0.grownBy (w.alloc o) (some D) ∧ PlanCell (w.alloc o) r p n h :=
  ⟨H.1.alloc o, grown_trans H.2.1 (grown_of_below (below_alloc w o)), H.2.2.alloc o⟩
theorem lit_late (w : World) (L : List Int) (k : Nat) (hk : k < L.length) : (w.alloc (.cells (L.map (Value.int .i64)).toArray 3)).cell? ⟨w.heap.size, k, none⟩ = some (.int .i64 (nth L k)) :=
  IntBlk.cell (heap_alloc_new w _) k hk
theorem lit_list (L : List Int) (k : Nat) (hk : k < L.length) : (L.map (Value.int .i64))[k]? = some (.int .i64 (nth L k)) := by rw [List.getElem?_map, nth_eq hk, List.getElem?_eq_getElem hk]; rfl
theorem lit_early {w w' : World} (L : List Int) {D k : Nat} (hg : (w.alloc (.cells (L.map (Value.int .i64)).toArray 3)).grownBy w' (some D)) (hD : D < w.heap.size) (hk : k < L.length) : w'.cell? ⟨w.heap.size, k, none⟩ = some (.int .i64 (nth L k)) :=
  (grown_cell hg _ _ (by simp) (by omega)).trans (lit_late w L k hk)
theorem enter_next (args : Array Value) (w : World) : (callFunc 17 args).run Tryd.prog w = .ok (.enter 17 args) w :=
  Go.MuLone.run_callFunc_enter Tryd.func17 (by kernel_rfl) rfl args w
theorem step_next {ops : Array Oper} {o : Oper} {a : Act} {K : Act → World → Prop} {Q : Exit → Act → World → Prop} {E : Prop} {D : Nat} {R : List Int} (W : World) (hgd : o.guard = none) (s : Operand) (n : Int)
    (ho : o.op = .call { callee := .value (.func 17), args := #[s, .const (.int .i64 n)], argTypes := #[27, 3] })
    (hs : a.eval s = .pointer (some ⟨D, 0, none⟩)) (hd : DiceAt W D R) (h1 : 1 ≤ n) (hn : n ≤ 4611686018427387904)
    (hK : ∀ (k : Nat) w', (k : Int) < n → DiceAt w' D R.tail → W.grownBy w' (some D) → K (a.put o.dst (.int .i64 (k : Int))) w') :
    if Region.wanted o (yielded ops a.tmps) = true then Oper.wp Tryd.prog o a W K Q else E := by
  refine step_call W hgd _ _ _ ho enter_next #[.pointer (some ⟨D, 0, none⟩), .int .i64 n] (by rw [← hs]; simp [Act.eval]) (next_nat D R n W hd h1 hn) ?_
  rintro e w' ⟨k, rfl, hk, hD, hg⟩
  exact ⟨_, rfl, hK k w' hk hD hg⟩
set_option maxRecDepth 100000 in
set_option maxHeartbeats 4000000 in
theorem anyPlan_any (D : Nat) (R : List Int) (w : World) (hd : DiceAt w D R) :
    Calls Tryd.prog 13 #[.pointer (some ⟨D, 0, none⟩)] w (AnyR D w) := by
  have hlt := hd.lt
  go_enter Tryd.func13, Tryd.ntmps13
  go_wp2_with fail
  refine (prime_any D R _ (hd.alloc _)).mono ?_
  rintro e w1 ⟨p, rfl, hpp, hp5, -, hD1, hg1⟩
  have hp2 := hpp.1
  have hX1 : PlanCell w1 w.heap.size 0 0 0 := (hg1.block w.heap.size (by simp) (fun e => by injection e with e; omega)).trans (PlanCell.new 0 0 0 rfl)
  have HGW := Lib.hid (grown_trans (grown_of_below (r := some D) (below_alloc w (.cells #[.int .i64 0, .int .i64 0, .int .i64 0] 24))) hg1)
  have HX1 := Lib.hid hX1
  have hz1 := hX1.lt
  clear hg1 hX1 hpp hd
  go_wp2_with fail
  refine (plan_any D _ p _ hD1 hp2 (by omega)).mono ?_
  rintro e w2 ⟨n, h, R2, rfl, ⟨hn1, hnh, hh7, hhp⟩, hD2, hg2⟩
  have HX2 := Lib.hid (HX1.out.keep (hg2.block _ hz1 (fun e => by injection e with e; omega)))
  have HG2 := Lib.hid (grown_trans HGW.out hg2)
  have hz2 := hg2.size
  clear hg2 HX1 HGW hD1
  go_wp2_with fail
  refine gen_calls fun w3 hw3 => ?_
  have HA : Hid (ApW w w3 D w.heap.size w2.heap.size R2 p n h) := Lib.hid (by
    rw [hw3]
    exact ⟨hD2.alloc _, grown_trans HG2.out (grown_of_below (below_alloc _ _)), HX2.out.alloc _, PlanCell.new _ _ _ rfl, Nat.le_refl _, by omega, by omega⟩)
  have hx3 : w.heap.size ≤ w2.heap.size := by omega
  obtain ⟨x, hx⟩ : ∃ x, x = w2.heap.size := ⟨_, rfl⟩
  rw [← hx] at HA hx3
  rw [← hx]
  clear hw3 hx HG2 HX2 hD2
  have q0 := HA.out.x0.c0
  have g0 := HA.out.r0.c0
  have q1 := HA.out.x0.c1
  have g1 := HA.out.r0.c1
  have q2 := HA.out.x0.c2
  have g2 := HA.out.r0.c2
  refine (next_nat D _ 12 _ HA.out.dice (by omega) (by omega)).mono ?_
  rintro e w4 ⟨m, rfl, hm, hD4, hg4⟩
  replace HA := Lib.hid (HA.out.mv hlt hD4 hg4)
  replace q0 := HA.out.x0.c0
  replace g0 := HA.out.r0.c0
  replace q1 := HA.out.x0.c1
  replace g1 := HA.out.r0.c1
  replace q2 := HA.out.x0.c2
  replace g2 := HA.out.r0.c2
  clear hD4 hg4
  by_cases h1 : m = 1
  · subst h1
    go_wp2_with fail
    refine (next_nat D _ 8 _ (HA.out.alloc _).dice (by omega) (by omega)).mono ?_
    rintro e w5 ⟨k, rfl, hk, hD5, hg5⟩
    have hI := (lit_ints w4 litP).grown hg5 (fun b off e => by injection e with e; injection e with e1; have := HA.out.dice.lt; omega)
    replace HA := Lib.hid ((HA.out.alloc _).mv hlt hD5 hg5)
    clear hD5 hg5
    obtain ⟨b, off, e, hbl, hcell⟩ := hI k (by show k < 8; omega)
    injection e with e
    injection e with e1 e2
    subst e1; subst e2
    rw [Nat.zero_add] at hcell
    have HBD := Lib.hid (lit_bd (L := litP) (lo := -7) (hi := 1073741827) (by decide) (k := k) (by show k < 8; omega))
    generalize nth litP k = y at *
    clear hI
    replace q0 := HA.out.x0.c0
    replace g0 := HA.out.r0.c0
    replace q1 := HA.out.x0.c1
    replace g1 := HA.out.r0.c1
    replace q2 := HA.out.x0.c2
    replace g2 := HA.out.r0.c2
    have f0 := HA.out.x0.frozen 0
    have f1 := HA.out.x0.frozen 1
    have f2 := HA.out.x0.frozen 2
    have k0 := HA.out.r0.frozen 0
    have k1 := HA.out.r0.frozen 1
    have k2 := HA.out.r0.frozen 2
    have e1 : ¬ x = w.heap.size := fun e => HA.out.ne e.symm
    have e2 : ¬ w.heap.size = x := HA.out.ne
    go_wp2_with fail
    have HF := Lib.hid (ApW.fin (HA.out.set hlt 0 y rfl (HA.out.x0.set0 y)) hlt)
    refine bodyPost_ret (results_plan rfl _ _ w.heap.size rfl HF.out.2.2) rfl ⟨y, n, h, _, rfl, ⟨HBD.out.1, HBD.out.2, by omega, by omega, by omega, by omega⟩, HF.out.1, HF.out.2.1⟩
  · by_cases h2 : m = 2
    · subst h2
      have f0 := HA.out.x0.frozen 0
      have f1 := HA.out.x0.frozen 1
      have f2 := HA.out.x0.frozen 2
      have k0 := HA.out.r0.frozen 0
      have k1 := HA.out.r0.frozen 1
      have k2 := HA.out.r0.frozen 2
      have e1 : ¬ x = w.heap.size := fun e => HA.out.ne e.symm
      have e2 : ¬ w.heap.size = x := HA.out.ne
      go_wp2_with fail
      go_region_law (first
          | (refine step_next _ rfl (.tmp 24) 3 rfl rfl (by exact HA.out.dice) (by omega) (by omega) ?_; intro k w5 hk hD5 hg5; have hg6 : w4.grownBy w5 (some D) := (by first | exact hg5 | exact grown_undrew hg5); replace HA := Lib.hid (HA.out.mv hlt hD5 hg6); replace q0 := HA.out.x0.c0; replace g0 := HA.out.r0.c0; replace f0 := HA.out.x0.frozen 0; replace k0 := HA.out.r0.frozen 0; replace q1 := HA.out.x0.c1; replace g1 := HA.out.r0.c1; replace f1 := HA.out.x0.frozen 1; replace k1 := HA.out.r0.frozen 1; replace q2 := HA.out.x0.c2; replace g2 := HA.out.r0.c2; replace f2 := HA.out.x0.frozen 2; replace k2 := HA.out.r0.frozen 2; have lx5 := HA.out.x0.lt; have lr5 := HA.out.r0.lt; have hcell := lit_list [0, -1, IntKind.i64.wrap ((h : Int) + 1)] k (show k < 3 by omega); simp only [List.map] at hcell; have HW := Lib.hid (fun (y : Int) (o : Obj) => finA (ApW.fin (HA.out.set hlt 1 y rfl (HA.out.x0.set1 y)) hlt) o))
          | (refine step_next _ rfl (.tmp 24) 3 rfl rfl (by exact (HA.out.alloc _).dice) (by omega) (by omega) ?_; intro k w5 hk hD5 hg5; have hg6 : (w4.alloc (.cells #[.int .i64 0, .int .i64 (-1), .int .i64 (IntKind.i64.wrap ((h : Int) + 1))] 3)).grownBy w5 (some D) := (by first | exact hg5 | exact grown_undrew hg5); have hcell := lit_early [0, -1, IntKind.i64.wrap ((h : Int) + 1)] hg6 (by have := HA.out.dice.lt; omega) (show k < 3 by omega); replace HA := Lib.hid ((HA.out.alloc _).mv hlt hD5 hg6); replace q0 := HA.out.x0.c0; replace g0 := HA.out.r0.c0; replace f0 := HA.out.x0.frozen 0; replace k0 := HA.out.r0.frozen 0; replace q1 := HA.out.x0.c1; replace g1 := HA.out.r0.c1; replace f1 := HA.out.x0.frozen 1; replace k1 := HA.out.r0.frozen 1; replace q2 := HA.out.x0.c2; replace g2 := HA.out.r0.c2; replace f2 := HA.out.x0.frozen 2; replace k2 := HA.out.r0.frozen 2; have lx5 := HA.out.x0.lt; have lr5 := HA.out.r0.lt; have HW := Lib.hid (fun (y : Int) => ApW.fin (HA.out.set hlt 1 y rfl (HA.out.x0.set1 y)) hlt)))
      all_goals
        have HBD := Lib.hid (lit_bd (L := [0, -1, IntKind.i64.wrap ((h : Int) + 1)]) (lo := -1) (hi := 1073741827) (by intro z hz; simp at hz; rcases hz with rfl | rfl | rfl <;> (try rw [IntWalk.i64_in _ (by omega)]) <;> omega) (k := k) (by show k < 3; omega))
        generalize nth [0, -1, IntKind.i64.wrap ((h : Int) + 1)] k = y at *
        clear hcell hD5 hg5 hg6
        go_wp2_with fail
        first
        | (refine bodyPost_ret (results_plan rfl _ _ w.heap.size rfl (HW.out y _).2.2) rfl ⟨p, y, h, _, rfl, ⟨by omega, by omega, HBD.out.1, HBD.out.2, by omega, by omega⟩, (HW.out y _).1, (HW.out y _).2.1⟩)
        | (refine bodyPost_ret (results_plan rfl _ _ w.heap.size rfl (HW.out y).2.2) rfl ⟨p, y, h, _, rfl, ⟨by omega, by omega, HBD.out.1, HBD.out.2, by omega, by omega⟩, (HW.out y).1, (HW.out y).2.1⟩)
    · by_cases h3 : m = 3
      · subst h3
        have f0 := HA.out.x0.frozen 0
        have f1 := HA.out.x0.frozen 1
        have f2 := HA.out.x0.frozen 2
        have k0 := HA.out.r0.frozen 0
        have k1 := HA.out.r0.frozen 1
        have k2 := HA.out.r0.frozen 2
        have e1 : ¬ x = w.heap.size := fun e => HA.out.ne e.symm
        have e2 : ¬ w.heap.size = x := HA.out.ne
        go_wp2_with fail
        go_region_law (first
            | (refine step_next _ rfl (.tmp 34) 4 rfl rfl (by exact HA.out.dice) (by omega) (by omega) ?_; intro k w5 hk hD5 hg5; have hg6 : w4.grownBy w5 (some D) := (by first | exact hg5 | exact grown_undrew hg5); replace HA := Lib.hid (HA.out.mv hlt hD5 hg6); replace q0 := HA.out.x0.c0; replace g0 := HA.out.r0.c0; replace f0 := HA.out.x0.frozen 0; replace k0 := HA.out.r0.frozen 0; replace q1 := HA.out.x0.c1; replace g1 := HA.out.r0.c1; replace f1 := HA.out.x0.frozen 1; replace k1 := HA.out.r0.frozen 1; replace q2 := HA.out.x0.c2; replace g2 := HA.out.r0.c2; replace f2 := HA.out.x0.frozen 2; replace k2 := HA.out.r0.frozen 2; have lx5 := HA.out.x0.lt; have lr5 := HA.out.r0.lt; have hcell := lit_list [0, 16, 17, (p : Int)] k (show k < 4 by omega); simp only [List.map] at hcell; have HW := Lib.hid (fun (y : Int) (o : Obj) => finA (ApW.fin (HA.out.set hlt 2 y rfl (HA.out.x0.set2 y)) hlt) o))
            | (refine step_next _ rfl (.tmp 34) 4 rfl rfl (by exact (HA.out.alloc _).dice) (by omega) (by omega) ?_; intro k w5 hk hD5 hg5; have hg6 : (w4.alloc (.cells #[.int .i64 0, .int .i64 16, .int .i64 17, .int .i64 (p : Int)] 3)).grownBy w5 (some D) := (by first | exact hg5 | exact grown_undrew hg5); have hcell := lit_early [0, 16, 17, (p : Int)] hg6 (by have := HA.out.dice.lt; omega) (show k < 4 by omega); replace HA := Lib.hid ((HA.out.alloc _).mv hlt hD5 hg6); replace q0 := HA.out.x0.c0; replace g0 := HA.out.r0.c0; replace f0 := HA.out.x0.frozen 0; replace k0 := HA.out.r0.frozen 0; replace q1 := HA.out.x0.c1; replace g1 := HA.out.r0.c1; replace f1 := HA.out.x0.frozen 1; replace k1 := HA.out.r0.frozen 1; replace q2 := HA.out.x0.c2; replace g2 := HA.out.r0.c2; replace f2 := HA.out.x0.frozen 2; replace k2 := HA.out.r0.frozen 2; have lx5 := HA.out.x0.lt; have lr5 := HA.out.r0.lt; have HW := Lib.hid (fun (y : Int) => ApW.fin (HA.out.set hlt 2 y rfl (HA.out.x0.set2 y)) hlt)))
        all_goals
          have HBD := Lib.hid (lit_bd (L := [0, 16, 17, (p : Int)]) (lo := 0) (hi := 1073741827) (by intro z hz; simp at hz; rcases hz with rfl | rfl | rfl | rfl <;> (try rw [IntWalk.i64_in _ (by omega)]) <;> omega) (k := k) (by show k < 4; omega))
          generalize nth [0, 16, 17, (p : Int)] k = y at *
          clear hcell hD5 hg5 hg6
          go_wp2_with fail
          first
          | (refine bodyPost_ret (results_plan rfl _ _ w.heap.size rfl (HW.out y _).2.2) rfl ⟨p, n, y, _, rfl, ⟨by omega, by omega, by omega, by omega, HBD.out.1, HBD.out.2⟩, (HW.out y _).1, (HW.out y _).2.1⟩)
          | (refine bodyPost_ret (results_plan rfl _ _ w.heap.size rfl (HW.out y).2.2) rfl ⟨p, n, y, _, rfl, ⟨by omega, by omega, by omega, by omega, HBD.out.1, HBD.out.2⟩, (HW.out y).1, (HW.out y).2.1⟩)
      · have h1' : ¬ (m : Int) = 1 := by omega
        have h2' : ¬ (m : Int) = 2 := by omega
        have h3' : ¬ (m : Int) = 3 := by omega
        have f0 := HA.out.x0.frozen 0
        have f1 := HA.out.x0.frozen 1
        have f2 := HA.out.x0.frozen 2
        have k0 := HA.out.r0.frozen 0
        have k1 := HA.out.r0.frozen 1
        have k2 := HA.out.r0.frozen 2
        have e1 : ¬ x = w.heap.size := fun e => HA.out.ne e.symm
        have e2 : ¬ w.heap.size = x := HA.out.ne
        go_wp2_with fail
        have HF := Lib.hid (ApW.fin (HA.out) hlt)
        refine bodyPost_ret (results_plan rfl _ _ w.heap.size rfl HF.out.2.2) rfl ⟨p, n, h, _, rfl, ⟨by omega, by omega, by omega, by omega, by omega, by omega⟩, HF.out.1, HF.out.2.1⟩
end Go.Proofs.YtkjpnhhkebbmdaaDoor
namespace Go.Proofs.YtkjpnhhkebbmdaaDoor
open Go.RowKit

/-- b^e % n in three steps. -/
def fpk (k K b e n : Nat) : Nat := Nat.mod (Nat.mul (Nat.pow (Nat.mod (Nat.mul (Nat.pow (Nat.mod (Nat.pow b (Nat.div e K)) n) k) (Nat.pow b (Nat.mod (Nat.div e k) k))) n) k) (Nat.pow b (Nat.mod e k))) n
theorem fpk_eq (k K b e n : Nat) (hK : K = k * k) : fpk k K b e n = b ^ e % n := by
  show (((b ^ (e / K) % n) ^ k * b ^ (e / k % k) % n) ^ k * b ^ (e % k)) % n = b ^ e % n
  have h1 : ∀ x y : Nat, ((x % n) ^ k * y) % n = (x ^ k * y) % n := fun x y => by
    rw [Nat.mul_mod, ← Nat.pow_mod, ← Nat.mul_mod]
  have h2 : ∀ x y z : Nat, (((x % n) ^ k * y) ^ k * z) % n = ((x ^ k * y) ^ k * z) % n := fun x y z => by
    rw [Nat.mul_mod, Nat.pow_mod, h1, ← Nat.pow_mod, ← Nat.mul_mod]
  rw [h1, h2]
  simp only [← Nat.pow_mul, ← Nat.pow_add]
  congr 2
  rw [hK, ← Nat.div_div_eq_div_mul, Nat.mul_comm (e / k / k) k, Nat.div_add_mod, Nat.mul_comm, Nat.div_add_mod]
def fp (b e n : Nat) : Nat := fpk 1024 1048576 b e n
theorem fp_eq (b e n : Nat) : fp b e n = b ^ e % n := fpk_eq 1024 1048576 b e n (by decide +kernel)
/-! ### Passing is Fermat's law -/
theorem sq_pred {n : Nat} (h : 2 ≤ n) : (n - 1) ^ 2 % n = 1 := by
  have e : (n - 1) ^ 2 = n * (n - 2) + 1 := by
    obtain ⟨m, rfl⟩ : ∃ m, n = m + 2 := ⟨n - 2, by omega⟩
    simp only [Nat.add_sub_cancel, show m + 2 - 1 = m + 1 by omega, Nat.pow_two, Nat.add_mul, Nat.mul_add]; omega
  rw [e, Nat.mul_add_mod]; exact Nat.mod_eq_of_lt (by omega)
theorem pow_one_mod {n x k : Nat} (hn : 2 ≤ n) (h : x % n = 1) : x ^ k % n = 1 := by
  rw [Nat.pow_mod, h, Nat.one_pow]; exact Nat.mod_eq_of_lt (by omega)
theorem mrGo_fermat {n : Nat} (hn : 2 ≤ n) : ∀ k x, mrGo n k x = true → ∃ j, 1 ≤ j ∧ j ≤ k ∧ x ^ (2 ^ j) % n = n - 1
  | 0, x, h => by simp [mrGo] at h
  | k + 1, x, h => by
    by_cases hy : fmul n x x = n - 1
    · exact ⟨1, by omega, by omega, by rw [← hy]; unfold fmul; rw [Nat.pow_one, Nat.pow_two]⟩
    · rw [mrGo_no n k x hy] at h
      obtain ⟨j, h1, h2, h3⟩ := mrGo_fermat hn k _ h
      refine ⟨j + 1, by omega, by omega, ?_⟩
      rw [← h3]
      unfold fmul
      rw [← Nat.pow_mod, ← Nat.pow_two, ← Nat.pow_mul, ← Nat.pow_succ']
theorem pow_up {n x j s : Nat} (hn : 2 ≤ n) (hj : j < s) (h : x ^ (2 ^ j) % n = n - 1) : x ^ (2 ^ s) % n = 1 := by
  have e : 2 ^ s = 2 ^ j * 2 * 2 ^ (s - j - 1) := by
    rw [← Nat.pow_succ, ← Nat.pow_add]; congr 1; omega
  rw [e, Nat.pow_mul]
  refine pow_one_mod hn ?_
  rw [Nat.pow_mul, Nat.pow_mod, h]; exact sq_pred hn
theorem pass_fermat {n b : Nat} (hn : 3 ≤ n) (hn2 : n ≤ 2147483648) (hodd : n % 2 = 1) (hc : Nat.Coprime n b) (h : mrPass n b = true) : b ^ (n - 1) % n = 1 := by
  have hm := mr_mul n
  have hx : mrX n b = b ^ mrD n % n := by unfold mrX fpow; rw [← Nat.pow_mod]
  have hs : 1 ≤ mrS n := by
    rcases Nat.eq_zero_or_pos (mrS n) with h0 | h0
    · exfalso
      have hd := mr_odd n (by omega) hn2
      rw [h0, Nat.pow_zero, Nat.mul_one] at hm
      omega
    · exact h0
  have key : ∀ j, j < mrS n → (b ^ mrD n) ^ (2 ^ j) % n = n - 1 → b ^ (n - 1) % n = 1 := fun j hj he => by
    rw [← hm, Nat.pow_mul]; exact pow_up (by omega) hj he
  by_cases h1 : mrX n b = 1
  · rw [← hm, Nat.pow_mul]; exact pow_one_mod (by omega) (by rw [← hx]; exact h1)
  · by_cases h2 : mrX n b = 0
    · exfalso
      rw [hx] at h2
      have hd : n ∣ b ^ mrD n := Nat.dvd_of_mod_eq_zero h2
      have := (Nat.Coprime.pow_right (mrD n) hc).eq_one_of_dvd hd
      omega
    · by_cases h3 : mrX n b = n - 1
      · exact key 0 hs (by rw [Nat.pow_zero, Nat.pow_one, ← hx]; exact h3)
      · rw [← mr_later n b (by intro h; rcases h with h | h | h <;> contradiction)] at h
        obtain ⟨j, j1, j2, j3⟩ := mrGo_fermat (by omega) _ _ h
        refine key j (by omega) ?_
        rw [hx, ← Nat.pow_mod] at j3; exact j3
/-! ### A quick test -/
def mrXF (n b : Nat) : Nat := fp (b % n) (mrD n) n
theorem mrXF_eq (n b : Nat) : mrXF n b = mrX n b := by unfold mrXF mrX fpow; exact fp_eq _ _ _
def mrPassF (n b : Nat) : Bool := if mrXF n b = 1 ∨ mrXF n b = 0 ∨ mrXF n b = n - 1 then true else mrGo n (mrS n - 1) (mrXF n b)
theorem mrPassF_eq (n b : Nat) : mrPassF n b = mrPass n b := by unfold mrPassF mrPass; rw [mrXF_eq]
/-- n does not pass. -/
def tst (n : Nat) : Bool := !(Nat.beq (fp 2 (n - 1) n) 1) || !(mrPassF n 2 && mrPassF n 3 && mrPassF n 5 && mrPassF n 7)
/-- n passes for all four bases, and is prime to them. -/
structure Pass4 (n : Nat) : Prop where
  lo : 3 ≤ n
  hi : n ≤ 1073741824
  odd : n % 2 = 1
  c2 : Nat.Coprime n 2
  c3 : Nat.Coprime n 3
  c5 : Nat.Coprime n 5
  c7 : Nat.Coprime n 7
  p2 : mrPass n 2 = true
  p3 : mrPass n 3 = true
  p5 : mrPass n 5 = true
  p7 : mrPass n 7 = true
theorem Pass4.tst {n : Nat} (h : Pass4 n) : tst n = false := by
  have h2 := pass_fermat h.lo (by have := h.hi; omega) h.odd h.c2 h.p2
  unfold Go.Proofs.YtkjpnhhkebbmdaaDoor.tst
  rw [mrPassF_eq, mrPassF_eq, mrPassF_eq, mrPassF_eq, h.p2, h.p3, h.p5, h.p7, fp_eq, h2]; rfl
theorem Pass4.f2 {n : Nat} (h : Pass4 n) : 2 ^ (n - 1) % n = 1 := pass_fermat h.lo (by have := h.hi; omega) h.odd h.c2 h.p2
theorem Pass4.f3 {n : Nat} (h : Pass4 n) : 3 ^ (n - 1) % n = 1 := pass_fermat h.lo (by have := h.hi; omega) h.odd h.c3 h.p3
theorem Pass4.f5 {n : Nat} (h : Pass4 n) : 5 ^ (n - 1) % n = 1 := pass_fermat h.lo (by have := h.hi; omega) h.odd h.c5 h.p5
theorem Pass4.f7 {n : Nat} (h : Pass4 n) : 7 ^ (n - 1) % n = 1 := pass_fermat h.lo (by have := h.hi; omega) h.odd h.c7 h.p7
theorem coprime_of_mod {n q : Nat} (hq : PrimeN q) (h : ¬ n % q = 0) : Nat.Coprime n q := by
  have := hq.coprime (a := n) (fun e => h (Nat.mod_eq_zero_of_dvd e))
  exact this.symm
theorem vGo_step {n b : Nat} {l : List Nat} (h : vGo n (b :: l) = true) : n = b ∨ (¬ n % b = 0 ∧ mrPass n b = true ∧ vGo n l = true) := by
  by_cases h1 : n = b
  · exact .inl h1
  · by_cases h2 : n % b = 0
    · rw [vGo_div h1 h2] at h; cases h
    · by_cases h3 : mrPass n b = true
      · rw [vGo_pass h1 h2 h3] at h; exact .inr ⟨h2, h3, h⟩
      · rw [vGo_fail h1 h2 (by simpa using h3)] at h; cases h
theorem valid_pass {n : Nat} (h : validI (n : Int) = true) : n = 2 ∨ n = 3 ∨ n = 5 ∨ n = 7 ∨ Pass4 n := by
  have h2 : 2 ≤ n := by
    rcases Nat.lt_or_ge n 2 with h1 | h1
    · rw [← validI_small (p := (n : Int)) (by omega)] at h; cases h
    · exact h1
  rw [← validI_nat h2] at h
  by_cases hb : n < 2 ∨ 1073741824 < n ∨ (2 < n ∧ n % 2 = 0)
  · unfold validF at h; rw [if_pos hb] at h; cases h
  · rw [← validF_go hb] at h
    rcases vGo_step h with e | ⟨a2, b2, h⟩
    · exact .inl e
    · rcases vGo_step h with e | ⟨a3, b3, h⟩
      · exact .inr (.inl e)
      · rcases vGo_step h with e | ⟨a5, b5, h⟩
        · exact .inr (.inr (.inl e))
        · rcases vGo_step h with e | ⟨a7, b7, -⟩
          · exact .inr (.inr (.inr (.inl e)))
          · exact .inr (.inr (.inr (.inr ⟨by omega, by omega, by omega, coprime_of_mod prime_2 a2, coprime_of_mod prime_3 a3, coprime_of_mod prime_5 a5, coprime_of_mod prime_7 a7, b2, b3, b5, b7⟩)))
end Go.Proofs.YtkjpnhhkebbmdaaDoor
namespace Go.Proofs.YtkjpnhhkebbmdaaDoor

def Ones (r k : Nat) : Prop := 2 ^ k % r = 1 ∧ 3 ^ k % r = 1 ∧ 5 ^ k % r = 1 ∧ 7 ^ k % r = 1
/-- Plain recursors: quick in the kernel. -/
noncomputable def bnd (x y : Bool) : Bool := @Bool.rec (fun _ => Bool) false y x
noncomputable def bor (x y : Bool) : Bool := @Bool.rec (fun _ => Bool) y true x
theorem bnd_iff {x y : Bool} : bnd x y = true ↔ x = true ∧ y = true := by cases x <;> cases y <;> simp [bnd]
theorem bor_iff {x y : Bool} : bor x y = true ↔ x = true ∨ y = true := by cases x <;> cases y <;> simp [bor]
/-- The argument is worked out first. -/
noncomputable def frc (x : Nat) (f : Nat → Bool) : Bool := @Nat.rec (fun _ => Bool) true (fun k _ => f k) (Nat.succ x)
theorem frc_eq (x : Nat) (f : Nat → Bool) : frc x f = f x := rfl
def fpR (b e n : Nat) : Nat := fpk 1024 1048576 b e n
theorem fpR_eq (b e n : Nat) : fpR b e n = b ^ e % n := fp_eq b e n
noncomputable def slow (n : Nat) : Bool := !(mrPassF n 2 && mrPassF n 3 && mrPassF n 5 && mrPassF n 7)
noncomputable def tstQ (n : Nat) : Bool := frc (Nat.sub n 1) fun e => @Bool.rec (fun _ => Bool) true (bor (Nat.blt 1073741824 n) (slow n)) (Nat.beq (fpR 2 e n) 1)
theorem tstQ_no {n : Nat} (h : Pass4 n) (ht : tstQ n = true) : False := by
  unfold tstQ at ht
  rw [frc_eq, fpR_eq] at ht
  have e : 2 ^ (Nat.sub n 1) % n = 1 := h.f2
  rw [e] at ht
  have ht : bor (Nat.blt 1073741824 n) (slow n) = true := ht
  have ht : slow n = true := by
    rcases bor_iff.1 ht with h1 | h1
    · rw [Nat.blt_eq] at h1; have := h.hi; omega
    · exact h1
  unfold slow at ht
  rw [mrPassF_eq, mrPassF_eq, mrPassF_eq, mrPassF_eq, h.p2, h.p3, h.p5, h.p7] at ht
  cases ht
noncomputable def ones (r k : Nat) : Bool := bnd (Nat.beq (fpR 2 k r) 1) (bnd (Nat.beq (fpR 3 k r) 1) (bnd (Nat.beq (fpR 5 k r) 1) (Nat.beq (fpR 7 k r) 1)))
theorem ones_iff (r k : Nat) : ones r k = true ↔ Ones r k := by
  unfold ones Ones
  simp only [bnd_iff, Nat.beq_eq, fpR_eq]
theorem Ones.mul {r k : Nat} (hr : 2 ≤ r) (h : Ones r k) (m : Nat) : Ones r (k * m) := by
  obtain ⟨h2, h3, h5, h7⟩ := h
  refine ⟨?_, ?_, ?_, ?_⟩ <;> (rw [Nat.pow_mul]; refine pow_one_mod hr ?_; assumption)
theorem pow_mod_one {r a k m : Nat} (h : a ^ m % r = 1) (h2 : a ^ k % r = 1) (hr : 2 ≤ r) : a ^ (k % m) % r = 1 := by
  have e : a ^ k = (a ^ m) ^ (k / m) * a ^ (k % m) := by rw [← Nat.pow_mul, ← Nat.pow_add, Nat.div_add_mod]
  rw [e, Nat.mul_mod, pow_one_mod hr h, Nat.one_mul, Nat.mod_mod] at h2
  exact h2
theorem Ones.mod {r k m : Nat} (hr : 2 ≤ r) (h : Ones r m) (h2 : Ones r k) : Ones r (k % m) :=
  ⟨pow_mod_one h.1 h2.1 hr, pow_mod_one h.2.1 h2.2.1 hr, pow_mod_one h.2.2.1 h2.2.2.1 hr, pow_mod_one h.2.2.2 h2.2.2.2 hr⟩
theorem Ones.gcd {r : Nat} (hr : 2 ≤ r) (m k : Nat) : Ones r m → Ones r k → Ones r (Nat.gcd m k) := by
  refine Nat.gcd.induction (P := fun m k => Ones r m → Ones r k → Ones r (Nat.gcd m k)) m k (fun n _ h => by rw [Nat.gcd_zero_left]; exact h) (fun m n hm ih h1 h2 => ?_)
  rw [Nat.gcd_rec]; exact ih (h1.mod hr h2) h1
noncomputable def ordE (r L e : Nat) : Bool := @Bool.rec (fun _ => Bool) true (bnd (Bool.not (ones r (Nat.div L e))) (Bool.not (bnd (Nat.blt e L) (ones r e)))) (Nat.beq (Nat.mod L e) 0)
theorem ordE_at {r L e : Nat} (h : ordE r L e = true) (hd : L % e = 0) : ¬ Ones r (L / e) ∧ ¬ (e < L ∧ Ones r e) := by
  have e1 : Nat.mod L e = 0 := hd
  unfold ordE at h
  rw [e1] at h
  have h := bnd_iff.1 (show bnd (Bool.not (ones r (Nat.div L e))) (Bool.not (bnd (Nat.blt e L) (ones r e))) = true from h)
  obtain ⟨h1, h2⟩ := h
  refine ⟨fun hh => ?_, fun ⟨h3, h4⟩ => ?_⟩
  · rw [show Nat.div L e = L / e from rfl, (ones_iff _ _).2 hh] at h1; cases h1
  · rw [bnd_iff.2 ⟨by rw [Nat.blt_eq]; exact h3, (ones_iff _ _).2 h4⟩] at h2; cases h2
noncomputable def ordAll (r L n : Nat) : Bool := @Nat.rec (fun _ => Bool) true (fun e ih => bnd (frc (Nat.add e 2) (ordE r L)) ih) n
theorem ordAll_at {r L : Nat} : ∀ n, ordAll r L n = true → ∀ e, 2 ≤ e → e < n + 2 → ordE r L e = true
  | 0, _, e, h1, h2 => absurd h1 (by omega)
  | n + 1, h, e, h1, h2 => by
    have ee : ordAll r L (n + 1) = bnd (ordE r L (n + 2)) (ordAll r L n) := rfl
    rw [ee, bnd_iff] at h
    by_cases he : e = n + 2
    · subst he; exact h.1
    · exact ordAll_at n h.2 e h1 (by omega)
/-- L is the least exponent. -/
noncomputable def ordOK (r L : Nat) : Bool := bnd (Nat.blt 0 L) (bnd (Nat.blt L 33000) (bnd (ones r L) (ordAll r L 180)))
theorem ordOK_dvd {r L k : Nat} (hr : 3 ≤ r) (h : ordOK r L = true) (hk : Ones r k) : L ∣ k := by
  unfold ordOK at h
  simp only [bnd_iff] at h
  obtain ⟨h0, hL, h1, hall⟩ := h
  have h0 : 0 < L := by simpa [Nat.blt_eq] using h0
  have hL : L < 33000 := by simpa [Nat.blt_eq] using hL
  have hd := Ones.gcd (by omega) L k ((ones_iff r L).1 h1) hk
  have hg := Nat.gcd_dvd_left L k
  generalize hgd : Nat.gcd L k = d at *
  have hdk : d ∣ k := by rw [← hgd]; exact Nat.gcd_dvd_right L k
  obtain ⟨m, hm⟩ := hg
  have chk := ordAll_at 180 hall
  by_cases hm1 : m = 1
  · rw [hm, hm1, Nat.mul_one]; exact hdk
  · exfalso
    have hm0 : ¬ m = 0 := fun e => by rw [e, Nat.mul_zero] at hm; omega
    have hd0 : 0 < d := by
      rcases Nat.eq_zero_or_pos d with e | e
      · rw [e, Nat.zero_mul] at hm; omega
      · exact e
    by_cases hbig : m ≤ 181
    · have hc := chk m (by omega) (by omega)
      have e1 : L % m = 0 := by rw [hm]; exact Nat.mul_mod_left d m
      have e2 : L / m = d := by rw [hm]; exact Nat.mul_div_cancel d (by omega)
      have h5 := (ordE_at hc e1).1
      rw [e2] at h5
      exact h5 hd
    · have hdl : d ≤ 181 := by
        rcases Nat.lt_or_ge 181 d with h | h
        · have := Nat.mul_le_mul h (show 182 ≤ m by omega); omega
        · exact h
      by_cases hd1 : d = 1
      · subst hd1
        have := hd.1
        rw [Nat.pow_one, Nat.mod_eq_of_lt (by omega)] at this; omega
      · have hc := chk d (by omega) (by omega)
        have e1 : L % d = 0 := by rw [hm]; exact Nat.mul_mod_right d m
        refine (ordE_at hc e1).2 ⟨?_, hd⟩
        rw [hm]
        have := Nat.mul_le_mul_left d (show 2 ≤ m by omega); omega
end Go.Proofs.YtkjpnhhkebbmdaaDoor
namespace Go.Proofs.YtkjpnhhkebbmdaaDoor

/-- The number r * s does not pass. -/
noncomputable def cand (r s : Nat) : Bool := frc s fun s => @Bool.rec (fun _ => Bool) true (frc (Nat.mul r s) tstQ) (Nat.beq (Nat.gcd s 105) 1)
theorem cand_no {r s : Nat} (h : cand r s = true) (hp : Pass4 (r * s)) : False := by
  unfold cand at h
  rw [frc_eq, frc_eq] at h
  have h1 : Nat.Coprime 105 (r * s) := ((hp.c3.mul_right hp.c5).mul_right hp.c7).symm
  have h2 : Nat.gcd s 105 = 1 := (h1.symm.coprime_dvd_left (Nat.dvd_mul_left s r))
  rw [h2] at h
  exact tstQ_no hp h
/-- The numbers r * (1 + t * L), b < t <= b + n, do not pass. -/
noncomputable def blk (r L b n : Nat) : Bool := @Nat.rec (fun _ => Bool) true (fun t ih => bnd (cand r (Nat.succ (Nat.mul (Nat.add b (Nat.succ t)) L))) ih) n
theorem blk_at {r L b : Nat} : ∀ n, blk r L b n = true → ∀ t, b < t → t ≤ b + n → cand r (t * L + 1) = true
  | 0, _, t, h1, h2 => absurd h1 (by omega)
  | n + 1, h, t, h1, h2 => by
    have e : blk r L b (n + 1) = bnd (cand r ((b + (n + 1)) * L + 1)) (blk r L b n) := rfl
    rw [e, bnd_iff] at h
    by_cases ht : t = b + (n + 1)
    · subst ht; exact h.1
    · exact blk_at n h.2 t h1 (by omega)
noncomputable def blks (r L n : Nat) : Bool := @Nat.rec (fun _ => Bool) true (fun b ih => bnd (frc (Nat.mul 100 b) fun b => blk r L b 100) ih) n
theorem blks_at {r L : Nat} : ∀ n, blks r L n = true → ∀ t, 0 < t → t ≤ 100 * n → cand r (t * L + 1) = true
  | 0, _, t, h1, h2 => absurd h1 (by omega)
  | n + 1, h, t, h1, h2 => by
    have e : blks r L (n + 1) = bnd (blk r L (100 * n) 100) (blks r L n) := rfl
    rw [e, bnd_iff] at h
    by_cases ht : 100 * n < t
    · exact blk_at 100 h.1 t ht (by omega)
    · exact blks_at n h.2 t h1 (by omega)
/-! ### One prime -/
def smallP : List Nat := [2, 3, 5, 7, 11, 13, 17, 19, 23, 29, 31, 37, 41, 43, 47, 53, 59, 61, 67, 71, 73, 79, 83, 89, 97, 101, 103, 107, 109, 113, 127, 131, 137, 139, 149, 151, 157, 163, 167, 173, 179, 181]
def P181 : Nat := 5397346292805549782720214077673687806275517530364350655459511599582614290
theorem P181_eq : prodL smallP = P181 := by decide +kernel
noncomputable def chkL (r L : Nat) : Bool := frc L fun L => bnd (ordOK r L) (blks r L (Nat.succ (Nat.div (Nat.div (Nat.div 1073741824 r) L) 100)))
noncomputable def chkP (r : Nat) : Bool := bor (chkL r (Nat.div (Nat.sub r 1) 4)) (bor (chkL r (Nat.div (Nat.sub r 1) 3)) (bor (chkL r (Nat.div (Nat.sub r 1) 2)) (chkL r (Nat.sub r 1))))
noncomputable def chk (r : Nat) : Bool := @Bool.rec (fun _ => Bool) true (chkP r) (Nat.beq (Nat.gcd r P181) 1)
theorem chkL_no {r L s : Nat} (hr : PrimeN r) (h181 : 181 < r) (h : chkL r L = true) (hs : 2 ≤ s) (hp : Pass4 (r * s)) : False := by
  unfold chkL at h
  rw [frc_eq, bnd_iff] at h
  obtain ⟨ho, hb⟩ := h
  have hcop : ∀ a, 2 ≤ a → a < r → a ^ (r - 1) % r = 1 := fun a h1 h2 => flt hr (fun e => by have := Nat.le_of_dvd (by omega) e; omega)
  have h1 := ordOK_dvd (by omega) ho (k := r - 1) ⟨hcop 2 (by omega) (by omega), hcop 3 (by omega) (by omega), hcop 5 (by omega) (by omega), hcop 7 (by omega) (by omega)⟩
  have hdn : ∀ a, a ^ (r * s - 1) % (r * s) = 1 → a ^ (r * s - 1) % r = 1 := fun a h => by
    rw [← Nat.mod_mul_right_mod _ r s, h]; exact Nat.mod_eq_of_lt (by omega)
  have h2 := ordOK_dvd (by omega) ho (k := r * s - 1) ⟨hdn 2 hp.f2, hdn 3 hp.f3, hdn 5 hp.f5, hdn 7 hp.f7⟩
  have hrs : r * s - 1 = (r - 1) * s + (s - 1) := by
    rw [Nat.sub_mul]; have := Nat.mul_le_mul_right s (show 1 ≤ r by omega); omega
  rw [hrs] at h2
  have h3 : L ∣ s - 1 := (Nat.dvd_add_right (Nat.dvd_trans h1 (Nat.dvd_mul_right _ _))).1 h2
  obtain ⟨t, ht⟩ := h3
  have hL : 0 < L := by
    rcases Nat.eq_zero_or_pos L with e | e
    · subst e; omega
    · exact e
  have ht0 : 0 < t := by
    rcases Nat.eq_zero_or_pos t with e | e
    · subst e; omega
    · exact e
  have hhi := hp.hi
  have ht1 : t ≤ 1073741824 / r / L := by
    rw [Nat.le_div_iff_mul_le hL, Nat.le_div_iff_mul_le (by omega)]
    have : t * L * r ≤ r * s := by
      rw [Nat.mul_comm t L, ← ht, Nat.mul_comm]; exact Nat.mul_le_mul_left r (by omega)
    omega
  have hT := blks_at _ hb t ht0 (show t ≤ 100 * Nat.succ (1073741824 / r / L / 100) by omega)
  rw [show t * L + 1 = s by rw [Nat.mul_comm, ← ht]; omega] at hT
  exact cand_no hT hp
theorem chk_no {r s : Nat} (hr : PrimeN r) (h181 : 181 < r) (h : chk r = true) (hs : 2 ≤ s) (hp : Pass4 (r * s)) : False := by
  have hnd : ¬ r ∣ P181 := by
    rw [← P181_eq]
    refine prime_prodL hr smallP (fun x hx hd => ?_)
    have h1 : ∀ x ∈ smallP, 0 < x ∧ x ≤ 181 := by decide +kernel
    obtain ⟨h2, h3⟩ := h1 x hx
    have := Nat.le_of_dvd h2 hd; omega
  have hg : Nat.gcd r P181 = 1 := hr.coprime hnd
  unfold chk at h
  rw [hg] at h
  have h : chkP r = true := h
  unfold chkP at h
  simp only [bor_iff] at h
  rcases h with h | h | h | h <;> exact chkL_no hr h181 h hs hp
/-- All odd r with lo < r <= lo + 2 n (lo even). -/
noncomputable def chks (lo n : Nat) : Bool := @Nat.rec (fun _ => Bool) true (fun i ih => bnd (frc (Nat.succ (Nat.add lo (Nat.mul 2 i))) chk) ih) n
theorem chks_at {lo : Nat} : ∀ n, chks lo n = true → ∀ i, i < n → chk (lo + 2 * i + 1) = true
  | 0, _, i, h => absurd h (by omega)
  | n + 1, h, i, h1 => by
    have e : chks lo (n + 1) = bnd (chk (lo + 2 * n + 1)) (chks lo n) := rfl
    rw [e, bnd_iff] at h
    by_cases hi : i = n
    · subst hi; exact h.1
    · exact chks_at n h.2 i (by omega)
end Go.Proofs.YtkjpnhhkebbmdaaDoor
namespace Go.Proofs.YtkjpnhhkebbmdaaDoor
theorem chks_276 : chks 276 15 = true := by kernel_rfl
theorem chks_366 : chks 366 26 = true := by kernel_rfl
theorem chks_576 : chks 576 66 = true := by kernel_rfl
theorem chks_1302 : chks 1302 393 = true := by kernel_rfl
theorem chks_3688 : chks 3688 400 = true := by kernel_rfl
theorem chks_6088 : chks 6088 400 = true := by kernel_rfl
theorem chks_6888 : chks 6888 400 = true := by kernel_rfl
theorem chks_10888 : chks 10888 400 = true := by kernel_rfl
theorem chks_13288 : chks 13288 400 = true := by kernel_rfl
theorem chks_14888 : chks 14888 400 = true := by kernel_rfl
theorem chks_18088 : chks 18088 400 = true := by kernel_rfl
theorem chks_24488 : chks 24488 400 = true := by kernel_rfl
theorem chks_26088 : chks 26088 400 = true := by kernel_rfl
theorem chks_27688 : chks 27688 400 = true := by kernel_rfl
end Go.Proofs.YtkjpnhhkebbmdaaDoor
namespace Go.Proofs.YtkjpnhhkebbmdaaDoor
theorem chks_190 : chks 190 3 = true := by kernel_rfl
theorem chks_210 : chks 210 8 = true := by kernel_rfl
theorem chks_418 : chks 418 30 = true := by kernel_rfl
theorem chks_936 : chks 936 183 = true := by kernel_rfl
theorem chks_2088 : chks 2088 400 = true := by kernel_rfl
theorem chks_8488 : chks 8488 400 = true := by kernel_rfl
theorem chks_9288 : chks 9288 400 = true := by kernel_rfl
theorem chks_10088 : chks 10088 400 = true := by kernel_rfl
theorem chks_20488 : chks 20488 400 = true := by kernel_rfl
theorem chks_21288 : chks 21288 400 = true := by kernel_rfl
theorem chks_22088 : chks 22088 400 = true := by kernel_rfl
theorem chks_22888 : chks 22888 400 = true := by kernel_rfl
theorem chks_31688 : chks 31688 400 = true := by kernel_rfl
theorem chks_32488 : chks 32488 140 = true := by kernel_rfl
end Go.Proofs.YtkjpnhhkebbmdaaDoor
namespace Go.Proofs.YtkjpnhhkebbmdaaDoor
theorem chks_180 : chks 180 5 = true := by kernel_rfl
theorem chks_196 : chks 196 7 = true := by kernel_rfl
theorem chks_226 : chks 226 6 = true := by kernel_rfl
theorem chks_330 : chks 330 18 = true := by kernel_rfl
theorem chks_478 : chks 478 49 = true := by kernel_rfl
theorem chks_5288 : chks 5288 400 = true := by kernel_rfl
theorem chks_7688 : chks 7688 400 = true := by kernel_rfl
theorem chks_12488 : chks 12488 400 = true := by kernel_rfl
theorem chks_16488 : chks 16488 400 = true := by kernel_rfl
theorem chks_18888 : chks 18888 400 = true := by kernel_rfl
theorem chks_19688 : chks 19688 400 = true := by kernel_rfl
theorem chks_23688 : chks 23688 400 = true := by kernel_rfl
theorem chks_29288 : chks 29288 400 = true := by kernel_rfl
theorem chks_30088 : chks 30088 400 = true := by kernel_rfl
end Go.Proofs.YtkjpnhhkebbmdaaDoor
namespace Go.Proofs.YtkjpnhhkebbmdaaDoor
theorem chks_238 : chks 238 9 = true := by kernel_rfl
theorem chks_256 : chks 256 10 = true := by kernel_rfl
theorem chks_306 : chks 306 12 = true := by kernel_rfl
theorem chks_708 : chks 708 114 = true := by kernel_rfl
theorem chks_2888 : chks 2888 400 = true := by kernel_rfl
theorem chks_4488 : chks 4488 400 = true := by kernel_rfl
theorem chks_11688 : chks 11688 400 = true := by kernel_rfl
theorem chks_14088 : chks 14088 400 = true := by kernel_rfl
theorem chks_15688 : chks 15688 400 = true := by kernel_rfl
theorem chks_17288 : chks 17288 400 = true := by kernel_rfl
theorem chks_25288 : chks 25288 400 = true := by kernel_rfl
theorem chks_26888 : chks 26888 400 = true := by kernel_rfl
theorem chks_28488 : chks 28488 400 = true := by kernel_rfl
theorem chks_30888 : chks 30888 400 = true := by kernel_rfl
end Go.Proofs.YtkjpnhhkebbmdaaDoor
namespace Go.Proofs.YtkjpnhhkebbmdaaDoor

theorem ex_prime : ∀ m : Nat, 2 ≤ m → ∃ p, PrimeN p ∧ p ∣ m := by
  intro m
  induction m using Nat.strongRecOn with
  | ind m ih =>
    intro hm
    by_cases hp : PrimeN m
    · exact ⟨m, hp, Nat.dvd_refl m⟩
    · have : ∃ d, d ∣ m ∧ d ≠ 1 ∧ d ≠ m := by
        refine Classical.byContradiction fun hn => hp ⟨hm, fun d hd => ?_⟩
        by_cases h1 : d = 1
        · exact .inl h1
        · by_cases h2 : d = m
          · exact .inr h2
          · exact absurd ⟨d, hd, h1, h2⟩ hn
      obtain ⟨d, hd, h1, h2⟩ := this
      have hle := Nat.le_of_dvd (by omega) hd
      have hd0 : d ≠ 0 := fun e => by subst e; have := Nat.eq_zero_of_zero_dvd hd; omega
      obtain ⟨p, hp, hpd⟩ := ih d (by omega) (by omega)
      exact ⟨p, hp, Nat.dvd_trans hpd hd⟩
/-- T holds of all products n * m up to N, m of primes in l. -/
noncomputable def dfs (T : Nat → Bool) (N : Nat) (k : Nat) : Nat → List Nat → Bool :=
  @Nat.rec (fun _ => Nat → List Nat → Bool) (fun _ _ => false)
    (fun _ F n l => @List.rec Nat (fun _ => Bool) true (fun q rest ih => frc (Nat.mul n q) fun m => @Bool.rec (fun _ => Bool) (bnd (T m) (bnd (F m (List.cons q rest)) ih)) true (Nat.blt N m)) l) k
theorem dfs_cons (T : Nat → Bool) (N k n q : Nat) (rest : List Nat) : dfs T N (k + 1) n (q :: rest) = @Bool.rec (fun _ => Bool) (bnd (T (n * q)) (bnd (dfs T N k (n * q) (q :: rest)) (dfs T N (k + 1) n rest))) true (Nat.blt N (n * q)) := rfl
theorem dfs_at {T : Nat → Bool} {N : Nat} : ∀ k n l, dfs T N k n l = true → 0 < n → l.Pairwise (· ≤ ·) → ∀ m, 2 ≤ m → (∀ q, PrimeN q → q ∣ m → q ∈ l) → n * m ≤ N → T (n * m) = true
  | 0, n, l, h => by cases (show false = true from h)
  | k + 1, n, [], h => by
    intro hn hs m hm hq
    obtain ⟨p, hp, hd⟩ := ex_prime m hm
    cases hq p hp hd
  | k + 1, n, q :: rest, h => by
    intro hn hs m hm hq hN
    rw [dfs_cons] at h
    rw [List.pairwise_cons] at hs
    have hqm : q ≤ m := by
      obtain ⟨p, hp, hd⟩ := ex_prime m hm
      have h1 := Nat.le_of_dvd (by omega) hd
      rcases List.mem_cons.1 (hq p hp hd) with e | e
      · omega
      · have := hs.1 p e; omega
    have hb : Nat.blt N (n * q) = false := by
      have := Nat.mul_le_mul_left n hqm
      cases hbb : Nat.blt N (n * q) with
      | false => rfl
      | true => rw [Nat.blt_eq] at hbb; omega
    rw [hb] at h
    have h : bnd (T (n * q)) (bnd (dfs T N k (n * q) (q :: rest)) (dfs T N (k + 1) n rest)) = true := h
    rw [bnd_iff, bnd_iff] at h
    obtain ⟨h1, h2, h3⟩ := h
    by_cases hd : q ∣ m
    · obtain ⟨m', rfl⟩ := hd
      have hq0 : 0 < q := by
        rcases Nat.eq_zero_or_pos q with e | e
        · subst e; omega
        · exact e
      rw [← Nat.mul_assoc]
      by_cases hm1 : m' = 1
      · rw [hm1, Nat.mul_one]; exact h1
      · refine dfs_at k (n * q) (q :: rest) h2 (Nat.mul_pos hn hq0) (List.pairwise_cons.2 hs) m' ?_ (fun p hp hd => hq p hp (Nat.dvd_trans hd (Nat.dvd_mul_left m' q))) (by rw [Nat.mul_assoc]; exact hN)
        rcases Nat.eq_zero_or_pos m' with e | e
        · subst e; omega
        · omega
    · refine dfs_at (k + 1) n rest h3 hn hs.2 m hm (fun p hp hpd => ?_) hN
      rcases List.mem_cons.1 (hq p hp hpd) with e | e
      · subst e; exact absurd hpd hd
      · exact e
/-- The same from each prime of the list on. -/
def AllS (T : Nat → Bool) (N k : Nat) : List Nat → Prop
  | [] => True
  | q :: rest => dfs T N k q (q :: rest) = true ∧ AllS T N k rest
theorem AllS.at {T : Nat → Bool} {N k : Nat} : ∀ {l : List Nat}, AllS T N k l → l.Pairwise (· ≤ ·) → ∀ m, 2 ≤ m → (∀ q, PrimeN q → q ∣ m → q ∈ l) → m ≤ N → m ∈ l ∨ T m = true
  | [], _, _, m, hm, hq, _ => by
    obtain ⟨p, hp, hd⟩ := ex_prime m hm
    cases hq p hp hd
  | q :: rest, h, hs, m, hm, hq, hN => by
    by_cases hd : q ∣ m
    · obtain ⟨m', rfl⟩ := hd
      by_cases hm1 : m' = 1
      · left; rw [hm1, Nat.mul_one]; simp
      · right
        have hq0 : 0 < q := by
          rcases Nat.eq_zero_or_pos q with e | e
          · subst e; omega
          · exact e
        refine dfs_at k q (q :: rest) h.1 hq0 hs m' ?_ (fun p hp hd => hq p hp (Nat.dvd_trans hd (Nat.dvd_mul_left m' q))) hN
        rcases Nat.eq_zero_or_pos m' with e | e
        · subst e; omega
        · omega
    · rcases AllS.at h.2 (List.pairwise_cons.1 hs).2 m hm (fun p hp hpd => by
        rcases List.mem_cons.1 (hq p hp hpd) with e | e
        · subst e; exact absurd hpd hd
        · exact e) hN with h1 | h1
      · left; simp [h1]
      · exact .inr h1
/-! ### A large prime times a small number -/
noncomputable def podd (lo n : Nat) : Nat := @Nat.rec (fun _ => Nat) 1 (fun i ih => Nat.mul (Nat.succ (Nat.add lo (Nat.mul 2 i))) ih) n
noncomputable def podds (n : Nat) : Nat := @Nat.rec (fun _ => Nat) 1 (fun b ih => Nat.mul (podd (Nat.mul 1024 b) 512) ih) n
noncomputable def PP : Nat := podds 32
theorem podd_no {r lo : Nat} (hr : PrimeN r) : ∀ n, lo + 2 * n ≤ r → ¬ r ∣ podd lo n
  | 0, _, h => by
    have h : r ∣ 1 := h
    have := Nat.le_of_dvd (by omega) h; have := hr.1; omega
  | n + 1, hl, h => by
    have h : r ∣ (lo + 2 * n + 1) * podd lo n := h
    rcases hr.euclid h with h | h
    · have := Nat.le_of_dvd (by omega) h; omega
    · exact podd_no hr n (by omega) h
theorem podds_no {r : Nat} (hr : PrimeN r) : ∀ n, 1024 * n ≤ r → ¬ r ∣ podds n
  | 0, _, h => by
    have h : r ∣ 1 := h
    have := Nat.le_of_dvd (by omega) h; have := hr.1; omega
  | n + 1, hl, h => by
    have h : r ∣ podd (1024 * n) 512 * podds n := h
    rcases hr.euclid h with h | h
    · exact podd_no hr 512 (by omega) h
    · exact podds_no hr n (by omega) h
noncomputable def gA (e : Nat) : Nat := Nat.gcd (Nat.gcd (Nat.sub (Nat.pow 2 e) 1) (Nat.sub (Nat.pow 3 e) 1)) (Nat.gcd (Nat.sub (Nat.pow 5 e) 1) (Nat.sub (Nat.pow 7 e) 1))
noncomputable def strp (P g : Nat) : Nat := Nat.div g (Nat.gcd g P)
noncomputable def endA (s h : Nat) : Bool := bor (Nat.beq h 1) (bnd (Nat.blt 0 h) (bnd (Nat.blt h 65536) (tstQ (Nat.mul h s))))
noncomputable def chkA (P s : Nat) : Bool := frc (Nat.sub s 1) fun e => frc (gA e) fun g => frc (strp P g) fun g => frc (strp P g) fun g => frc (strp P g) fun g => endA s g
theorem strp_dvd {r P g : Nat} (hr : PrimeN r) (hP : ¬ r ∣ P) (h : r ∣ g) : r ∣ strp P g := by
  have e : g = Nat.gcd g P * strp P g := (Nat.mul_div_cancel' (Nat.gcd_dvd_left g P)).symm
  rcases hr.euclid (e ▸ h) with h1 | h1
  · exact absurd (Nat.dvd_trans h1 (Nat.gcd_dvd_right g P)) hP
  · exact h1
theorem pred_dvd {a r s : Nat} (hr : PrimeN r) (ha : 2 ≤ a) (har : a < r) (hs : 2 ≤ s) (hsr : s < r) (h : a ^ (r * s - 1) % (r * s) = 1) : r ∣ Nat.sub (Nat.pow a (s - 1)) 1 := by
  have h1 : a ^ (r * s - 1) % r = 1 := by
    rw [← Nat.mod_mul_right_mod _ r s, h]; exact Nat.mod_eq_of_lt (by omega)
  have h2 := pow_mod_one (flt hr (fun e => by have := Nat.le_of_dvd (by omega) e; omega)) h1 (by omega)
  have e : (r * s - 1) % (r - 1) = s - 1 := by
    have e : r * s - 1 = (s - 1) + (r - 1) * s := by
      rw [Nat.sub_mul]; have := Nat.mul_le_mul_right s (show 1 ≤ r by omega); omega
    rw [e, Nat.add_mul_mod_self_left, Nat.mod_eq_of_lt (by omega)]
  rw [e] at h2
  refine Nat.dvd_of_mod_eq_zero ?_
  exact Nat.sub_mod_eq_zero_of_mod_eq (by rw [show Nat.pow a (s - 1) = a ^ (s - 1) from rfl, h2, Nat.mod_eq_of_lt (by omega)])
theorem chkA_no {r s : Nat} (hr : PrimeN r) (hbig : 32768 ≤ r) (hs : 2 ≤ s) (hsr : s < r) (h : chkA PP s = true) (hp : Pass4 (r * s)) : False := by
  have hP : ¬ r ∣ PP := podds_no hr 32 (by omega)
  unfold chkA at h
  rw [frc_eq, frc_eq, frc_eq, frc_eq, frc_eq] at h
  have hg : r ∣ gA (Nat.sub s 1) := by
    unfold gA
    exact Nat.dvd_gcd (Nat.dvd_gcd (pred_dvd hr (by omega) (by omega) hs hsr hp.f2) (pred_dvd hr (by omega) (by omega) hs hsr hp.f3)) (Nat.dvd_gcd (pred_dvd hr (by omega) (by omega) hs hsr hp.f5) (pred_dvd hr (by omega) (by omega) hs hsr hp.f7))
  have hd := strp_dvd hr hP (strp_dvd hr hP (strp_dvd hr hP hg))
  generalize strp PP (strp PP (strp PP (gA (Nat.sub s 1)))) = g at *
  unfold endA at h
  rw [bor_iff, bnd_iff, bnd_iff] at h
  rcases h with h | ⟨h0, h1, h2⟩
  · have h : g = 1 := Nat.eq_of_beq_eq_true h
    subst h
    have := Nat.le_of_dvd (by omega) hd; omega
  · rw [Nat.blt_eq] at h0 h1
    obtain ⟨c, rfl⟩ := hd
    have hc : c = 1 := by
      rcases Nat.lt_or_ge c 2 with h | h
      · rcases Nat.eq_zero_or_pos c with e | e
        · subst e; omega
        · omega
      · have := Nat.mul_le_mul_left r h; omega
    subst hc
    rw [Nat.mul_one] at h2
    exact tstQ_no hp h2
end Go.Proofs.YtkjpnhhkebbmdaaDoor
