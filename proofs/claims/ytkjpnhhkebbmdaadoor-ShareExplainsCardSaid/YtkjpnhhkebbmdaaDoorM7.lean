/-
  Shares: the document's Deal.
  Shares: the verifier's Dealt.
  Shares: the comparison of equal lists; sums of two lists.
  Shares: a plan of dice that may not be valid.
  Shares: rows of shares in which something is changed.
  Shares: the verifier's Odd: something of shares is changed.
  Conditions: those that each theorem names.
-/
import Derived.Test.YtkjpnhhkebbmdaaDoorM6
import Derived.StillTailTactics
import Derived.Deep.RegionWith
set_option linter.unusedVariables false
set_option linter.unusedSimpArgs false
namespace Go.Proofs.YtkjpnhhkebbmdaaDoor
open Go.RowKit

attribute [local go_sem high] sliced_low
theorem elems_nat (p : Nat) (A : Option Addr) (L : List Nat) (c : Nat) (w : World) (hA : NatsAt w A L) (hl : L.length ≤ 1048576) (hL : ∀ x ∈ L, x < p) (hv : primeV p = true) :
    Calls Tryd.prog 47 #[.int .i64 p, .slice A L.length c] w (Ret (.bool true) w) := by
  have := elems_ref A (ofN L) c p w hA.ints (by rw [len_ofN]; omega)
  unfold elemsI at this
  rw [hv, Bool.and_true, show inside p (ofN L) = true from nat_inside hL, len_ofN] at this
  exact this
/-- The values that holder k + 1 gets. -/
def rowN (p n : Nat) (SN RN : List Nat) (x : Nat) : List Nat := (List.range SN.length).map fun i => evN p (polN SN RN (n - 1) i) x
theorem rowN_len (p n : Nat) (SN RN : List Nat) (x : Nat) : (rowN p n SN RN x).length = SN.length := by simp [rowN]
theorem rowN_take {p n x i : Nat} {SN RN : List Nat} (h : i < SN.length) : (rowN p n SN RN x).take (i + 1) = (rowN p n SN RN x).take i ++ [evN p (polN SN RN (n - 1) i) x] := by
  rw [List.take_succ_eq_append_getElem (by rw [rowN_len]; exact h)]; simp [rowN]
theorem deal_take {p n h k : Nat} {SN RN : List Nat} (hk : k < h) : (dealN p n h SN RN).take (k + 1) = (dealN p n h SN RN).take k ++ [(k + 1, rowN p n SN RN (k + 1))] := by
  have hk' : k < (dealN p n h SN RN).length := by rw [deal_len]; exact hk
  rw [List.take_succ_eq_append_getElem hk', getD_at hk']
  unfold dealN
  rw [(dealtT_at hk).1, (dealtT_at hk).2]; rfl
theorem take_len {L : List Nat} {n i : Nat} (h : L.length = n) (hi : i ≤ n) : (L.take i).length = i := by rw [List.length_take]; omega

theorem enter_refEval (args : Array Value) (w : World) : (callFunc 48 args).run Tryd.prog w = .ok (.enter 48 args) w :=
  Go.MuLone.run_callFunc_enter Tryd.func48 (by kernel_rfl) rfl args w
theorem step_refEval {ops : Array Oper} {o : Oper} {a : Act} {K : Act → World → Prop} {Q : Exit → Act → World → Prop} {E : Prop} {p y x : Nat} {F : Option Addr} {cf m : Nat} (W : World) (hgd : o.guard = none) (s1 s2 s3 : Operand) (ts : Array TypeId)
    (ho : o.op = .call { callee := .value (.func 48), args := #[s1, s2, s3], argTypes := ts }) (h1 : a.eval s1 = .int .i64 (p : Int)) (h2 : a.eval s2 = .slice F m cf) (h3 : a.eval s3 = .int .i64 (x : Int))
    (hc : Calls Tryd.prog 48 #[.int .i64 (p : Int), .slice F m cf, .int .i64 (x : Int)] W (RetB (.int .i64 (y : Int)) W)) (h : ∀ w', Below W.heap.size W w' → K (a.put o.dst (.int .i64 (y : Int))) w') :
    if Region.wanted o (yielded ops a.tmps) = true then Oper.wp Tryd.prog o a W K Q else E :=
  step_call W hgd _ _ ts ho enter_refEval _ (by simp [h1, h2, h3]) hc (fun e w' hr => by obtain ⟨rfl, hb⟩ := hr; exact ⟨_, rfl, h w' hb⟩)

set_option maxRecDepth 100000 in
set_option maxHeartbeats 4000000 in
theorem refDeal_k (p n h : Nat) (A B : Option Addr) (ca cb : Nat) (SN RN : List Nat) (w : World) (hq : PrimeN p) (hq2 : p ≤ 1073741824) (hv : primeV p = validI p) (hpl : plB p n h = true) (h1 : 1 ≤ n) (hkk : 2 ≤ n) (hnh : n ≤ h) (hh : h ≤ 16) (hhp : h < p) (hA : NatsAt w A SN) (hR : NatsAt w B RN) (hok : IOK B cb RN.length)
    (hs : ∀ x ∈ SN, x < p) (hr : ∀ x ∈ RN, x < p) (hl : RN.length = SN.length * (n - 1)) (hm : SN.length ≤ 2048) (hm2 : RN.length ≤ 1048576) :
    Calls Tryd.prog 21 #[planV p n h, .slice A SN.length ca, .slice B RN.length cb] w (ShErr (shL (dealN p n h SN RN)) 0 w) := by
  obtain ⟨k0, hk0⟩ : ∃ k0, k0 = n - 1 := ⟨_, rfl⟩
  have hk' : (n : Int) - 1 = (k0 : Int) := by omega
  have HVA := Lib.hid (fun (W : World) => show Calls Tryd.prog 19 #[planV p n h] W (RetB (.bool true) W) from by have := refValid_plan p n h W hv; rw [hpl] at this; exact this)
  have hpv : primeV p = true := plB_pv hpl hv
  have HES := Lib.hid (fun (W : World) (hb : Below w.heap.size w W) => elems_nat p A SN ca W (hA.below hb) (by omega) hs hpv)
  have HER := Lib.hid (fun (W : World) (hb : Below w.heap.size w W) => elems_nat p B RN cb W (hR.below hb) hm2 hr hpv)
  have HRN := Lib.hid (fun (W : World) => refRandom_any p n h SN.length W (by omega) (by omega) (by omega) (by omega))
  have HA := Lib.hid hA
  have HR := Lib.hid hR
  have HOK := Lib.hid hok
  have HSP := Lib.hid hs
  have HRP := Lib.hid hr
  have hle : (RN.length : Int) = SN.length * ((n : Int) - 1) := by rw [hl, hk', ← hk0]; push_cast; rfl
  have t2 : ((RN.length : Int) != (SN.length : Int) * ((n : Int) - 1)) = false := by simp [hle]
  have t1 : decide (2048 < (SN.length : Int)) = false := decide_eq_false (by omega)
  have HLE := Lib.hid (show RN.length = SN.length * k0 by rw [hk0]; exact hl)
  have HK0 := Lib.hid hk0
  have HKK := Lib.hid hkk
  have HKI := Lib.hid hk'
  have b0 : 1 ≤ p := by omega
  have hn7 : n ≤ 16 := by omega
  have hk8 : k0 ≤ 16 := by omega
  clear hA hR hok hs hr hl hle hk0 hkk hk' hv hpl hq hpv
  go_enter Tryd.func21, Tryd.ntmps21
  go_wp2_with fail
  refine ret_below (HVA.out _) ?_
  intro w1 hb1
  have hbw1 := below_trans (below_alloc _ _) hb1
  have HP := Lib.hid ((PlanCell.new (w := w) p n h rfl).below hb1)
  have p0 := HP.out.c0
  have p1 := HP.out.c1
  have p2 := HP.out.c2
  go_wp2_with fail
  refine ret_pure (HES.out _ hbw1) ?_
  go_wp2_with fail
  refine ret_pure (HER.out _ hbw1) ?_
  go_wp2_with fail
  refine ret_below (HRN.out _) ?_
  intro w4 hb4
  have hbw4 := below_trans hbw1 hb4
  have HP4 := Lib.hid (HP.out.below hb4)
  have p04 := HP4.out.c0
  have p14 := HP4.out.c1
  have p24 := HP4.out.c2
  have hpxl := HP4.out.lt
  clear p0 p1 p2 hb1 hb4 HVA HES HER HRN
  have ew : IntKind.i64.wrap ((n : Int) - 1) = (n : Int) - 1 := IntWalk.i64_in _ (by omega)
  go_wp2_with fail
  have HRM := Lib.hid (show ∀ i, i < SN.length → i * k0 + k0 ≤ RN.length from fun i hi => by rw [HLE.out]; exact part_bd hi)
  go_loopw [8, 10] (fun o i wr => ∃ k x : Nat, k ≤ h ∧ x = k + 1 ∧ i = .int .i64 x ∧ RowsV (fun b => w4.heap.size ≤ b) wr w4.heap.size o (shL ((dealN p n h SN RN).take k)) ∧ Below w4.heap.size w4 wr) (fun _ i _ => h + 1 - (intOf i).toNat)
  case atStart => exact ⟨0, 1, Nat.zero_le _, rfl, rfl, RowsV.nil _ _ _, Below.refl _ _⟩
  case round =>
    obtain ⟨k, x, hk, hx, rfl, hR, hbr⟩ := hrel
    obtain ⟨OA, oc, hv, hRd⟩ := hR.read
    have hlk : (shL ((dealN p n h SN RN).take k)).length = k := by rw [shL_len, List.length_take, deal_len]; omega
    rw [hlk] at hv
    subst hv
    have hsz := hbr.size
    have hbwo := below_trans hbw4 hbr
    have hPr := HP4.out.keep (hbr.block w.heap.size hpxl)
    have y0 := hPr.c0
    have y1 := hPr.c1
    have y2 := hPr.c2
    have hpxr := hPr.lt
    have HPr := Lib.hid hPr
    have HR' := Lib.hid hR
    have HLK := Lib.hid hlk
    have HRd := Lib.hid hRd
    have HXK := Lib.hid hx
    clear hR hlk hRd hPr p04 p14 p24
    by_cases hlt : k < h
    · have hxh : x ≤ h := by omega
      have HTK := Lib.hid (deal_take (p := p) (n := n) (SN := SN) (RN := RN) hlt)
      rw [← hx] at HTK
      clear hx
      obtain ⟨wo, rfl⟩ : ∃ wo : World, wo = wr := ⟨_, rfl⟩
      go_wp2_with fail
      refine gen_world fun w5 hw5 => ?_
      have hsc : ShCell w5 wo.heap.size x (.slice none 0 0) := by rw [hw5]; exact ShCell.new _ _ rfl
      have hb5 : Below wo.heap.size wo w5 := by rw [hw5]; exact below_alloc _ _
      have hz5 := hsc.lt
      have HSC := Lib.hid hsc
      clear hw5 hsc y0 y1 y2
      go_loopw [58] (fun j wr => ∃ (m : Nat) (v : Value), m ≤ SN.length ∧ j = .int .i64 m ∧ ShCell wr wo.heap.size x v ∧ wr.ownsRow w5.heap.size 3 1 v ((rowN p n SN RN x).take m).length (valsN ((rowN p n SN RN x).take m)) ∧ Below wo.heap.size wo wr ∧ w5.heap.size ≤ wr.heap.size) (fun j _ => SN.length - (intOf j).toNat)
      case atStart => exact ⟨0, _, Nat.zero_le _, rfl, HSC.out, World.ownsRow_nil _ _ _ _, hb5, Nat.le_refl _⟩
      case round =>
        obtain ⟨i, v, hi, rfl, hsc, hown, hbq0, hzq⟩ := hrel
        have hbq := below_trans hbwo hbq0
        have hPq := HPr.out.below hbq0
        have y0 := hPq.c0
        have y1 := hPq.c1
        have y2 := hPq.c2
        have s0 := hsc.c0
        have s1 := hsc.c1
        have lS := hsc.lt
        have hpq := hPq.lt
        have hwq := hbq0.size
        have HPq := Lib.hid hPq
        clear hPq
        have hrl : (rowN p n SN RN x).length = SN.length := rowN_len _ _ _ _ _
        by_cases hlt2 : i < SN.length
        · obtain ⟨VA, vc, rfl, -⟩ := own_sl hown rfl
          have HSQ := Lib.hid hsc
          have HOWN := Lib.hid hown
          clear hsc hown
          obtain ⟨bA, oA, rfl, hbA, hcA⟩ := (HA.out.below hbq) i hlt2
          have HTI := Lib.hid (rowN_take (p := p) (n := n) (x := x) (SN := SN) (RN := RN) hlt2)
          have HTIL := Lib.hid (take_len hrl hi)
          clear hrl
          obtain ⟨f, hf⟩ : ∃ f, f = polN SN RN (n - 1) i := ⟨_, rfl⟩
          have hfl : f.length ≤ 17 := by have h1 : f.length ≤ (n - 1) + 1 := by { rw [hf]; exact polN_len }; omega
          have HFP := Lib.hid (show ∀ y ∈ f, y < p by rw [hf]; exact polN_lt b0 HSP.out HRP.out _ i)
          rw [← hf] at HTI
          obtain ⟨T, hT⟩ : ∃ T, T = (RN.drop (i * (n - 1))).take (n - 1) := ⟨_, rfl⟩
          have hXn : nthN SN i < p := nthN_lt b0 HSP.out i
          have hrm := HRM.out i hlt2
          have hTN : NatsAt wr B RN := HR.out.below hbq
          have hTl : T.length = k0 := by rw [hT, List.length_take, List.length_drop, ← HK0.out]; omega
          obtain ⟨lo, hlo⟩ : ∃ lo, lo = i * k0 := ⟨_, rfl⟩
          have e1 : (i : Int) * ((n : Int) - 1) = (lo : Int) := by rw [HKI.out, hlo]; push_cast; rfl
          rw [← hlo] at hrm
          obtain ⟨bB, oB, rfl, hbB, -⟩ := hTN lo (by have := HKK.out; have := HK0.out; omega)
          have hne : ¬ cb = lo := by have := HOK.out.len; have := HKK.out; have := HK0.out; omega
          obtain ⟨hi', hh'⟩ : ∃ x, x = lo + k0 := ⟨_, rfl⟩
          have e2 : ((i : Int) + 1) * ((n : Int) - 1) = (hi' : Int) := by rw [Int.add_mul, e1, Int.one_mul, HKI.out]; omega
          have b1 : (0 : Int) ≤ (i : Int) * ((n : Int) - 1) := by rw [e1]; omega
          have b2 : (i : Int) * ((n : Int) - 1) ≤ 1048576 := by rw [e1]; omega
          have b3 : (0 : Int) ≤ ((i : Int) + 1) * ((n : Int) - 1) := by rw [e2]; omega
          have b4 : ((i : Int) + 1) * ((n : Int) - 1) ≤ 1048576 := by rw [e2]; omega
          have HTL := Lib.hid (show T.length = hi' - lo by omega)
          have hTn : NatsAt wr (some ⟨bB, oB + lo, none⟩) T := by rw [hT, ← HK0.out, ← hlo]; exact (hTN.dropAt lo).take k0
          have HTN := Lib.hid hTn
          have hcap := HOK.out.len
          have c1 : (lo : Int) ≤ (hi' : Int) := by omega
          have c2 : (hi' : Int) ≤ (cb : Int) := by omega
          have c3 : (lo : Int) ≤ (cb : Int) := by omega
          have c4 : (0 : Int) ≤ (lo : Int) := by omega
          have c5 : T.length ≤ 1048576 := by omega
          have HPOL : Hid ([nthN SN i] ++ T = f) := by rw [hf, hT]; rfl
          clear hlo hTN hTl hf hT hTn hh' 
          go_wp2_with (at_builtin; refine app_sl rfl (.tmp 64) (.tmp 73) rfl (base := wr.heap.size) (v := .slice (some ⟨wr.heap.size, 0, none⟩) 1 1) (S := [nthN SN i]) T (some ⟨bB, oB + lo, none⟩) (cb - lo) rfl ((lit1_nats wr (nthN SN i)).own (Nat.le_refl _) (by unfold maxLen; simp)) (by rw [HTL.out]; rfl) (HTN.out.alloc _) (fun e => by cases e) (.inr (fun a e => by injection e with e; subst e; rfl)) (by simp; omega) (by simp) ?_; intro v6 w6 hown6 hb6; rw [HPOL.out] at hown6; obtain ⟨Fa, fc, rfl, hFN, hFS, hFb⟩ := own_sl hown6 rfl; have hb6' : Below wr.heap.size wr w6 := (below_of_alloc hb6 (Nat.le_refl _)); have HFN := Lib.hid hFN; clear hFN hFb hown6)
          have hz6 := hb6'.size
          have HPq6 := Lib.hid (HPq.out.below hb6')
          have HSQ6 := Lib.hid (HSQ.out.below hb6')
          have u0 := HPq6.out.c0
          have u1 := HSQ6.out.c1
          have u2 := HSQ6.out.c0
          have u3 := HSQ6.out.frozen 1
          have lS6 := HSQ6.out.lt
          have lP6 := HPq6.out.lt
          have HOWN6 := Lib.hid (own_below HOWN.out hb6')
          have HEV := Lib.hid (fun (W : World) (hb : Below w6.heap.size w6 W) => show Calls Tryd.prog 48 #[.int .i64 (p : Int), .slice Fa f.length fc, .int .i64 (x : Int)] W (RetB (.int .i64 (evN p f x : Nat)) W) from (refEval_any p x Fa f fc W b0 (by omega) (by omega) HFP.out (HFN.out.below hb) (by omega)).mono (by rintro e w1 ⟨rfl, rfl⟩; exact ⟨rfl, Below.refl _ _⟩))
          generalize evN p f x = y at *
          generalize hMM : (rowN p n SN RN x).take i = M at *
          have hml : M.length ≤ 2048 := by have := HTIL.out; omega
          have HMM := Lib.hid hMM
          clear y0 y1 y2 s0 s1 HOWN hMM
          go_wp2_with fail
          go_region_law (first
            | (refine step_refEval _ rfl (.tmp 78) (.tmp 79) (.tmp 80) _ rfl rfl rfl rfl (HEV.out _ (by (repeat (first | exact bl_refl _ | apply bl_drew | apply bl_alloc)))) ?_; intro w7 hb7; have hb7' : Below w6.heap.size w6 w7 := (below_undrew1 hb7); have l7 := Nat.lt_of_lt_of_le lS6 hb7'.size; have m0 := (hb7'.cell (p := ⟨w.heap.size, 0, none⟩) lP6).trans u0; have m1 := (hb7'.cell (p := ⟨wo.heap.size, 1, none⟩) lS6).trans u1; have m2 := (hb7'.frozen (p := ⟨wo.heap.size, 1, none⟩) lS6).trans u3)
            | (refine step_app_row _ rfl (.tmp 76) (.tmp 82) rfl w7 w5.heap.size (.slice VA M.length vc) M y rfl rfl ⟨rfl, rfl, rfl, rfl⟩ (own_below HOWN6.out hb7') (by omega) (by have := hb7'.size; omega) ?_; intro g' cap w8 hown8 hg8 hbW8 hat8 hb8; have n1 := (hb8.cell (p := ⟨wo.heap.size, 1, none⟩) hz5).trans m1; have n2 := (hb8.frozen (p := ⟨wo.heap.size, 1, none⟩) hz5).trans m2))
          all_goals
            have hc8 : ShCell w8 wo.heap.size x (.slice VA M.length vc) := (hb8.block wo.heap.size hz5).trans (HSQ6.out.below hb7')
            have hcz := hc8.set1 (.slice (some ⟨g', 0, none⟩) (M.length + 1) cap)
            have hoz := own_other hown8 ⟨wo.heap.size, 1, none⟩ (.slice (some ⟨g', 0, none⟩) (M.length + 1) cap) (fun b e => by have := (hown8.lt b e).1; dsimp only; omega)
            have hbz := (below_trans (below_trans hbq0 hb6') hb7').trans (hb8.mono (show wo.heap.size ≤ w5.heap.size by omega))
            have hzz := hbz.setCell (p := ⟨wo.heap.size, 1, none⟩) (Nat.le_refl _) (.slice (some ⟨g', 0, none⟩) (M.length + 1) cap)
            have hs8 := hb8.size
            have hs7 := hb7'.size
            have hz9 : w5.heap.size ≤ (w8.setCell ⟨wo.heap.size, 1, none⟩ (.slice (some ⟨g', 0, none⟩) (M.length + 1) cap)).heap.size := by simp [World.setCell]; omega
            have HZ := Lib.hid (And.intro hcz (And.intro hoz (And.intro hzz hz9)))
            clear hc8 hcz hoz hbz hzz hz9 hown8 n1 n2
            go_wp2_with fail
            go_roundw
            case rel => exact ⟨i + 1, _, by omega, by go_num, HZ.out.1, by rw [HTI.out, List.length_append]; exact HZ.out.2.1, HZ.out.2.2.1, HZ.out.2.2.2⟩
            case measure => simp [intOf]; omega
        · obtain rfl : i = SN.length := by omega
          rw [List.take_of_length_le (by rw [hrl]; exact Nat.le_refl _)] at hown
          clear hrl
          obtain ⟨VA, vc, rfl, hVN, hVS, hVb⟩ := own_sl hown rfl
          have HSQ := Lib.hid hsc
          clear hsc
          have hN9 : ShNew wo wr wo.heap.size x VA vc (rowN p n SN RN x) := ⟨HSQ.out, hVN, hVS, fun b off e => by have := hVb b off e; omega, Nat.le_refl _, hbq0⟩
          generalize rowN p n SN RN x = L at *
          have HN9 := Lib.hid hN9
          have hz9 := hN9.below.size
          obtain ⟨W, hW⟩ : ∃ W, W = wr.alloc (.cells #[.int .i64 (x : Int), .slice VA L.length vc] 47) := ⟨_, rfl⟩
          have hbW : Below wo.heap.size wo W := by rw [hW]; exact bl_alloc _ hN9.below
          have hWz : wr.heap.size ≤ W.heap.size := by rw [hW]; exact (below_alloc _ _).size
          obtain ⟨H, e1, e2, e3⟩ := (HR'.out.below hbW).ex
          have HE3 := Lib.hid (And.intro e1 (And.intro e2 e3))
          have hHl : H.length ≤ 16 := by rw [e2, HLK.out]; omega
          clear e2 e3 hN9 hVN hVS hVb hown
          subst hW
          go_wp2_with (at_builtin; refine app_hv rfl (.tmp 86) (.tmp 88) rfl (base := w4.heap.size) (H := H) (v := .slice OA k oc) ((x : Int), .slice VA L.length vc) rfl e1 rfl (heap_alloc_new _ _) rfl (by omega) (by omega) ?_; intro v4 w8 hown4 hg4 hb4 hv4)
          have hpl8 := (hbr.trans ((hbW.mono hsz).trans hb4))
          have HB4 := Lib.hid hpl8
          have HR4 := Lib.hid (RowsV.put HR'.out HN9.out hsz rfl HE3.out hown4 hg4 hv4 HTK.out)
          clear hown4 hg4 hv4 e1 hpl8
          go_roundw
          case rel => exact ⟨x, x + 1, hxh, rfl, by go_num, HR4.out, HB4.out⟩
          case measure => simp [intOf]; omega
    · obtain rfl : k = h := by omega
      have hX := HRd.out
      rw [List.take_of_length_le (by rw [deal_len]; exact Nat.le_refl _)] at hX
      have hz4 := hbw4.size
      have HX := Lib.hid (hX.mono (Q := fun b => w.heap.size ≤ b) (fun b _ hb => by omega))
      clear hX
      go_wp2_with fail
      go_ret2
      exact ⟨OA, oc, by { have e := (shL_len (dealN p n k SN RN)).trans (deal_len p n k SN RN); rw [e]; first | done | rfl }, HX.out, hbwo⟩

set_option maxRecDepth 100000 in
set_option maxHeartbeats 4000000 in
theorem refDeal_z (p n h : Nat) (A B : Option Addr) (ca cb : Nat) (SN RN : List Nat) (w : World) (hq : PrimeN p) (hq2 : p ≤ 1073741824) (hv : primeV p = validI p) (hpl : plB p n h = true) (h1 : 1 ≤ n) (hkk : n = 1) (hnh : n ≤ h) (hh : h ≤ 16) (hhp : h < p) (hA : NatsAt w A SN) (hR : NatsAt w B RN) (hok : IOK B cb RN.length)
    (hs : ∀ x ∈ SN, x < p) (hr : ∀ x ∈ RN, x < p) (hl : RN.length = SN.length * (n - 1)) (hm : SN.length ≤ 2048) (hm2 : RN.length ≤ 1048576) :
    Calls Tryd.prog 21 #[planV p n h, .slice A SN.length ca, .slice B RN.length cb] w (ShErr (shL (dealN p n h SN RN)) 0 w) := by
  obtain ⟨k0, hk0⟩ : ∃ k0, k0 = n - 1 := ⟨_, rfl⟩
  have hk' : (n : Int) - 1 = (k0 : Int) := by omega
  have HVA := Lib.hid (fun (W : World) => show Calls Tryd.prog 19 #[planV p n h] W (RetB (.bool true) W) from by have := refValid_plan p n h W hv; rw [hpl] at this; exact this)
  have hpv : primeV p = true := plB_pv hpl hv
  have HES := Lib.hid (fun (W : World) (hb : Below w.heap.size w W) => elems_nat p A SN ca W (hA.below hb) (by omega) hs hpv)
  have HER := Lib.hid (fun (W : World) (hb : Below w.heap.size w W) => elems_nat p B RN cb W (hR.below hb) hm2 hr hpv)
  have HRN := Lib.hid (fun (W : World) => refRandom_any p n h SN.length W (by omega) (by omega) (by omega) (by omega))
  have HA := Lib.hid hA
  have HR := Lib.hid hR
  have HOK := Lib.hid hok
  have HSP := Lib.hid hs
  have HRP := Lib.hid hr
  have hle : (RN.length : Int) = SN.length * ((n : Int) - 1) := by rw [hl, hk', ← hk0]; push_cast; rfl
  have t2 : ((RN.length : Int) != (SN.length : Int) * ((n : Int) - 1)) = false := by simp [hle]
  have t1 : decide (2048 < (SN.length : Int)) = false := decide_eq_false (by omega)
  have HLE := Lib.hid (show RN.length = SN.length * k0 by rw [hk0]; exact hl)
  have HK0 := Lib.hid hk0
  have HKK := Lib.hid hkk
  have HKI := Lib.hid hk'
  have b0 : 1 ≤ p := by omega
  have hn7 : n ≤ 16 := by omega
  have hk8 : k0 ≤ 16 := by omega
  clear hA hR hok hs hr hl hle hk0 hkk hk' hv hpl hq hpv
  go_enter Tryd.func21, Tryd.ntmps21
  go_wp2_with fail
  refine ret_below (HVA.out _) ?_
  intro w1 hb1
  have hbw1 := below_trans (below_alloc _ _) hb1
  have HP := Lib.hid ((PlanCell.new (w := w) p n h rfl).below hb1)
  have p0 := HP.out.c0
  have p1 := HP.out.c1
  have p2 := HP.out.c2
  go_wp2_with fail
  refine ret_pure (HES.out _ hbw1) ?_
  go_wp2_with fail
  refine ret_pure (HER.out _ hbw1) ?_
  go_wp2_with fail
  refine ret_below (HRN.out _) ?_
  intro w4 hb4
  have hbw4 := below_trans hbw1 hb4
  have HP4 := Lib.hid (HP.out.below hb4)
  have p04 := HP4.out.c0
  have p14 := HP4.out.c1
  have p24 := HP4.out.c2
  have hpxl := HP4.out.lt
  clear p0 p1 p2 hb1 hb4 HVA HES HER HRN
  have ew : IntKind.i64.wrap ((n : Int) - 1) = (n : Int) - 1 := IntWalk.i64_in _ (by omega)
  go_wp2_with fail
  have HRM := Lib.hid (show ∀ i, i < SN.length → i * k0 + k0 ≤ RN.length from fun i hi => by rw [HLE.out]; exact part_bd hi)
  go_loopw [8, 10] (fun o i wr => ∃ k x : Nat, k ≤ h ∧ x = k + 1 ∧ i = .int .i64 x ∧ RowsV (fun b => w4.heap.size ≤ b) wr w4.heap.size o (shL ((dealN p n h SN RN).take k)) ∧ Below w4.heap.size w4 wr) (fun _ i _ => h + 1 - (intOf i).toNat)
  case atStart => exact ⟨0, 1, Nat.zero_le _, rfl, rfl, RowsV.nil _ _ _, Below.refl _ _⟩
  case round =>
    obtain ⟨k, x, hk, hx, rfl, hR, hbr⟩ := hrel
    obtain ⟨OA, oc, hv, hRd⟩ := hR.read
    have hlk : (shL ((dealN p n h SN RN).take k)).length = k := by rw [shL_len, List.length_take, deal_len]; omega
    rw [hlk] at hv
    subst hv
    have hsz := hbr.size
    have hbwo := below_trans hbw4 hbr
    have hPr := HP4.out.keep (hbr.block w.heap.size hpxl)
    have y0 := hPr.c0
    have y1 := hPr.c1
    have y2 := hPr.c2
    have hpxr := hPr.lt
    have HPr := Lib.hid hPr
    have HR' := Lib.hid hR
    have HLK := Lib.hid hlk
    have HRd := Lib.hid hRd
    have HXK := Lib.hid hx
    clear hR hlk hRd hPr p04 p14 p24
    by_cases hlt : k < h
    · have hxh : x ≤ h := by omega
      have HTK := Lib.hid (deal_take (p := p) (n := n) (SN := SN) (RN := RN) hlt)
      rw [← hx] at HTK
      clear hx
      obtain ⟨wo, rfl⟩ : ∃ wo : World, wo = wr := ⟨_, rfl⟩
      go_wp2_with fail
      refine gen_world fun w5 hw5 => ?_
      have hsc : ShCell w5 wo.heap.size x (.slice none 0 0) := by rw [hw5]; exact ShCell.new _ _ rfl
      have hb5 : Below wo.heap.size wo w5 := by rw [hw5]; exact below_alloc _ _
      have hz5 := hsc.lt
      have HSC := Lib.hid hsc
      clear hw5 hsc y0 y1 y2
      go_loopw [58] (fun j wr => ∃ (m : Nat) (v : Value), m ≤ SN.length ∧ j = .int .i64 m ∧ ShCell wr wo.heap.size x v ∧ wr.ownsRow w5.heap.size 3 1 v ((rowN p n SN RN x).take m).length (valsN ((rowN p n SN RN x).take m)) ∧ Below wo.heap.size wo wr ∧ w5.heap.size ≤ wr.heap.size) (fun j _ => SN.length - (intOf j).toNat)
      case atStart => exact ⟨0, _, Nat.zero_le _, rfl, HSC.out, World.ownsRow_nil _ _ _ _, hb5, Nat.le_refl _⟩
      case round =>
        obtain ⟨i, v, hi, rfl, hsc, hown, hbq0, hzq⟩ := hrel
        have hbq := below_trans hbwo hbq0
        have hPq := HPr.out.below hbq0
        have y0 := hPq.c0
        have y1 := hPq.c1
        have y2 := hPq.c2
        have s0 := hsc.c0
        have s1 := hsc.c1
        have lS := hsc.lt
        have hpq := hPq.lt
        have hwq := hbq0.size
        have HPq := Lib.hid hPq
        clear hPq
        have hrl : (rowN p n SN RN x).length = SN.length := rowN_len _ _ _ _ _
        by_cases hlt2 : i < SN.length
        · obtain ⟨VA, vc, rfl, -⟩ := own_sl hown rfl
          have HSQ := Lib.hid hsc
          have HOWN := Lib.hid hown
          clear hsc hown
          obtain ⟨bA, oA, rfl, hbA, hcA⟩ := (HA.out.below hbq) i hlt2
          have HTI := Lib.hid (rowN_take (p := p) (n := n) (x := x) (SN := SN) (RN := RN) hlt2)
          have HTIL := Lib.hid (take_len hrl hi)
          clear hrl
          obtain ⟨f, hf⟩ : ∃ f, f = polN SN RN (n - 1) i := ⟨_, rfl⟩
          have hfl : f.length ≤ 17 := by have h1 : f.length ≤ (n - 1) + 1 := by { rw [hf]; exact polN_len }; omega
          have HFP := Lib.hid (show ∀ y ∈ f, y < p by rw [hf]; exact polN_lt b0 HSP.out HRP.out _ i)
          rw [← hf] at HTI
          obtain ⟨T, hT⟩ : ∃ T, T = (RN.drop (i * (n - 1))).take (n - 1) := ⟨_, rfl⟩
          have hXn : nthN SN i < p := nthN_lt b0 HSP.out i
          have hrm := HRM.out i hlt2
          have ez : (n : Int) - 1 = 0 := by have := HKK.out; omega
          have e1 : (i : Int) * ((n : Int) - 1) = 0 := by rw [ez, Int.mul_zero]
          have e2 : ((i : Int) + 1) * ((n : Int) - 1) = 0 := by rw [ez, Int.mul_zero]
          clear ez
          have hTl : T.length = 0 := by rw [hT, List.length_take]; have := HKK.out; have := HK0.out; omega
          have hT0 : T = [] := List.eq_nil_of_length_eq_zero (by omega)
          have HCB := Lib.hid HOK.out.nil
          subst hT0
          have HPOL := Lib.hid (show [nthN SN i] ++ [] = f by { rw [hf]; unfold polN; rw [← hT] })
          clear hTl hT hf
          go_wp2_with (at_builtin; refine app_sl rfl (.tmp 64) (.tmp 73) rfl (base := wr.heap.size) (v := .slice (some ⟨wr.heap.size, 0, none⟩) 1 1) (S := [nthN SN i]) [] B cb rfl ((lit1_nats wr (nthN SN i)).own (Nat.le_refl _) (by unfold maxLen; simp)) rfl (NatsAt.nil _ _) (fun e => ⟨rfl, HCB.out e⟩) (.inl rfl) (by simp) (by simp) ?_; intro v6 w6 hown6 hb6; rw [HPOL.out] at hown6; obtain ⟨Fa, fc, rfl, hFN, hFS, hFb⟩ := own_sl hown6 rfl; have hb6' : Below wr.heap.size wr w6 := (below_of_alloc hb6 (Nat.le_refl _)); have HFN := Lib.hid hFN; clear hFN hFb hown6)
          have hz6 := hb6'.size
          have HPq6 := Lib.hid (HPq.out.below hb6')
          have HSQ6 := Lib.hid (HSQ.out.below hb6')
          have u0 := HPq6.out.c0
          have u1 := HSQ6.out.c1
          have u2 := HSQ6.out.c0
          have u3 := HSQ6.out.frozen 1
          have lS6 := HSQ6.out.lt
          have lP6 := HPq6.out.lt
          have HOWN6 := Lib.hid (own_below HOWN.out hb6')
          have HEV := Lib.hid (fun (W : World) (hb : Below w6.heap.size w6 W) => show Calls Tryd.prog 48 #[.int .i64 (p : Int), .slice Fa f.length fc, .int .i64 (x : Int)] W (RetB (.int .i64 (evN p f x : Nat)) W) from (refEval_any p x Fa f fc W b0 (by omega) (by omega) HFP.out (HFN.out.below hb) (by omega)).mono (by rintro e w1 ⟨rfl, rfl⟩; exact ⟨rfl, Below.refl _ _⟩))
          generalize evN p f x = y at *
          generalize hMM : (rowN p n SN RN x).take i = M at *
          have hml : M.length ≤ 2048 := by have := HTIL.out; omega
          have HMM := Lib.hid hMM
          clear y0 y1 y2 s0 s1 HOWN hMM
          go_wp2_with fail
          go_region_law (first
            | (refine step_refEval _ rfl (.tmp 78) (.tmp 79) (.tmp 80) _ rfl rfl rfl rfl (HEV.out _ (by (repeat (first | exact bl_refl _ | apply bl_drew | apply bl_alloc)))) ?_; intro w7 hb7; have hb7' : Below w6.heap.size w6 w7 := (below_undrew1 hb7); have l7 := Nat.lt_of_lt_of_le lS6 hb7'.size; have m0 := (hb7'.cell (p := ⟨w.heap.size, 0, none⟩) lP6).trans u0; have m1 := (hb7'.cell (p := ⟨wo.heap.size, 1, none⟩) lS6).trans u1; have m2 := (hb7'.frozen (p := ⟨wo.heap.size, 1, none⟩) lS6).trans u3)
            | (refine step_app_row _ rfl (.tmp 76) (.tmp 82) rfl w7 w5.heap.size (.slice VA M.length vc) M y rfl rfl ⟨rfl, rfl, rfl, rfl⟩ (own_below HOWN6.out hb7') (by omega) (by have := hb7'.size; omega) ?_; intro g' cap w8 hown8 hg8 hbW8 hat8 hb8; have n1 := (hb8.cell (p := ⟨wo.heap.size, 1, none⟩) hz5).trans m1; have n2 := (hb8.frozen (p := ⟨wo.heap.size, 1, none⟩) hz5).trans m2))
          all_goals
            have hc8 : ShCell w8 wo.heap.size x (.slice VA M.length vc) := (hb8.block wo.heap.size hz5).trans (HSQ6.out.below hb7')
            have hcz := hc8.set1 (.slice (some ⟨g', 0, none⟩) (M.length + 1) cap)
            have hoz := own_other hown8 ⟨wo.heap.size, 1, none⟩ (.slice (some ⟨g', 0, none⟩) (M.length + 1) cap) (fun b e => by have := (hown8.lt b e).1; dsimp only; omega)
            have hbz := (below_trans (below_trans hbq0 hb6') hb7').trans (hb8.mono (show wo.heap.size ≤ w5.heap.size by omega))
            have hzz := hbz.setCell (p := ⟨wo.heap.size, 1, none⟩) (Nat.le_refl _) (.slice (some ⟨g', 0, none⟩) (M.length + 1) cap)
            have hs8 := hb8.size
            have hs7 := hb7'.size
            have hz9 : w5.heap.size ≤ (w8.setCell ⟨wo.heap.size, 1, none⟩ (.slice (some ⟨g', 0, none⟩) (M.length + 1) cap)).heap.size := by simp [World.setCell]; omega
            have HZ := Lib.hid (And.intro hcz (And.intro hoz (And.intro hzz hz9)))
            clear hc8 hcz hoz hbz hzz hz9 hown8 n1 n2
            go_wp2_with fail
            go_roundw
            case rel => exact ⟨i + 1, _, by omega, by go_num, HZ.out.1, by rw [HTI.out, List.length_append]; exact HZ.out.2.1, HZ.out.2.2.1, HZ.out.2.2.2⟩
            case measure => simp [intOf]; omega
        · obtain rfl : i = SN.length := by omega
          rw [List.take_of_length_le (by rw [hrl]; exact Nat.le_refl _)] at hown
          clear hrl
          obtain ⟨VA, vc, rfl, hVN, hVS, hVb⟩ := own_sl hown rfl
          have HSQ := Lib.hid hsc
          clear hsc
          have hN9 : ShNew wo wr wo.heap.size x VA vc (rowN p n SN RN x) := ⟨HSQ.out, hVN, hVS, fun b off e => by have := hVb b off e; omega, Nat.le_refl _, hbq0⟩
          generalize rowN p n SN RN x = L at *
          have HN9 := Lib.hid hN9
          have hz9 := hN9.below.size
          obtain ⟨W, hW⟩ : ∃ W, W = wr.alloc (.cells #[.int .i64 (x : Int), .slice VA L.length vc] 47) := ⟨_, rfl⟩
          have hbW : Below wo.heap.size wo W := by rw [hW]; exact bl_alloc _ hN9.below
          have hWz : wr.heap.size ≤ W.heap.size := by rw [hW]; exact (below_alloc _ _).size
          obtain ⟨H, e1, e2, e3⟩ := (HR'.out.below hbW).ex
          have HE3 := Lib.hid (And.intro e1 (And.intro e2 e3))
          have hHl : H.length ≤ 16 := by rw [e2, HLK.out]; omega
          clear e2 e3 hN9 hVN hVS hVb hown
          subst hW
          go_wp2_with (at_builtin; refine app_hv rfl (.tmp 86) (.tmp 88) rfl (base := w4.heap.size) (H := H) (v := .slice OA k oc) ((x : Int), .slice VA L.length vc) rfl e1 rfl (heap_alloc_new _ _) rfl (by omega) (by omega) ?_; intro v4 w8 hown4 hg4 hb4 hv4)
          have hpl8 := (hbr.trans ((hbW.mono hsz).trans hb4))
          have HB4 := Lib.hid hpl8
          have HR4 := Lib.hid (RowsV.put HR'.out HN9.out hsz rfl HE3.out hown4 hg4 hv4 HTK.out)
          clear hown4 hg4 hv4 e1 hpl8
          go_roundw
          case rel => exact ⟨x, x + 1, hxh, rfl, by go_num, HR4.out, HB4.out⟩
          case measure => simp [intOf]; omega
    · obtain rfl : k = h := by omega
      have hX := HRd.out
      rw [List.take_of_length_le (by rw [deal_len]; exact Nat.le_refl _)] at hX
      have hz4 := hbw4.size
      have HX := Lib.hid (hX.mono (Q := fun b => w.heap.size ≤ b) (fun b _ hb => by omega))
      clear hX
      go_wp2_with fail
      go_ret2
      exact ⟨OA, oc, by { have e := (shL_len (dealN p n k SN RN)).trans (deal_len p n k SN RN); rw [e]; first | done | rfl }, HX.out, hbwo⟩
end Go.Proofs.YtkjpnhhkebbmdaaDoor
namespace Go.Proofs.YtkjpnhhkebbmdaaDoor
open Go.RowKit

theorem refDeal_made {p n h : Nat} {A B : Option Addr} {ca cb k j : Nat} {sec ran : List Nat} {w : World} (P : PlanN p n h) (hA : NatsAt w A sec) (hR : NatsAt w B ran) (hok : SlOK B cb ran)
    (hm : sec.length ≤ 2048) (hs : ∀ x ∈ sec, x < p) (hr : ∀ x ∈ ran, x < p) (hl : ran.length = sec.length * (n - 1)) (hl2 : ran.length ≤ 1048576) (hk : k = sec.length) (hj : j = ran.length) :
    Calls Tryd.prog 21 #[planV p n h, .slice A k ca, .slice B j cb] w (DealR (dealN p n h sec ran) h w) := by
  subst hk hj
  have key : Calls Tryd.prog 21 #[planV p n h, .slice A sec.length ca, .slice B ran.length cb] w (ShErr (shL (dealN p n h sec ran)) 0 w) := by
    rcases Nat.lt_or_ge n 2 with h1 | h1
    · exact refDeal_z p n h A B ca cb sec ran w P.pr P.p2 P.pv P.pl P.n1 (by have := P.n1; omega) P.nh (by have := P.h7; omega) P.hp hA hR hok.iok hs hr hl hm hl2
    · exact refDeal_k p n h A B ca cb sec ran w P.pr P.p2 P.pv P.pl P.n1 h1 P.nh (by have := P.h7; omega) P.hp hA hR hok.iok hs hr hl hm hl2
  refine key.mono ?_
  rintro e w' ⟨A', c', rfl, h1, h2⟩
  exact ⟨A', c', by rw [shL_len, deal_len], h1, h2⟩
theorem refRandom_nat (p n h q rl : Nat) (w : World) (hrl : rl = q * (n - 1)) (hn : 1 ≤ n) (hn2 : n ≤ 1000) (hq : q ≤ 1048576) :
    Calls Tryd.prog 24 #[planV p n h, .int .i64 (q : Int)] w (RetB (.int .i64 (rl : Int)) w) := by
  have := refRandom_any p n h q w (by omega) (by omega) (by omega) (by omega)
  rw [show (q : Int) * ((n : Int) - 1) = ((rl : Nat) : Int) from by rw [hrl, show ((n : Int) - 1) = ((n - 1 : Nat) : Int) by omega]; push_cast; rfl] at this
  exact this
/-- What a dealt secret is. -/
structure DealtN (p n h most : Nat) (sec ran : List Nat) : Prop where
  lo : 1 ≤ sec.length
  hi : sec.length ≤ most
  sp : ∀ x ∈ sec, x < p
  rp : ∀ x ∈ ran, x < p
  ln : ran.length = sec.length * (n - 1)
def DealtP (D p n h most : Nat) (w : World) (e : Ending) (w' : World) : Prop :=
  ∃ (A : Option Addr) (c : Nat) (sec : List Nat) (A' : Option Addr) (c' : Nat) (ran : List Nat) (R' : List Int), e = .returned (.tuple #[.slice A sec.length c, .slice A' h c']) ∧ DealtN p n h most sec ran ∧ Held w' D A c sec ∧ ShP (· ≠ D) w' A' c' (shL (dealN p n h sec ran)) ∧ DiceAt w' D R' ∧ w.grownBy w' (some D)

set_option maxRecDepth 100000 in
set_option maxHeartbeats 4000000 in
theorem dealt_any (D : Nat) (R : List Int) (p n h most : Nat) (w : World) (hd : DiceAt w D R) (P : PlanN p n h) (hm : 1 ≤ most) (hm2 : most ≤ 10) :
    Calls Tryd.prog 31 #[.pointer (some ⟨D, 0, none⟩), planV p n h, .int .i64 (most : Int)] w (DealtP D p n h most w) := by
  have HPN := Lib.hid P
  have h1 := P.p1
  have hp2 : p ≤ 2147483648 := by have := P.p2; omega
  have hn1 := P.n1
  have hn7 : n ≤ 7 := Nat.le_trans P.nh P.h7
  have hDl := hd.lt
  clear P
  go_enter Tryd.func31, Tryd.ntmps31
  go_wp2_with fail
  refine gen_world fun w4 hw4 => ?_
  have hpc : PlanCell w4 w.heap.size p n h := by rw [hw4]; exact PlanCell.new _ _ _ rfl
  have hb4 : Below w.heap.size w w4 := by rw [hw4]; exact below_alloc _ _
  have hd4 := hd.below hb4
  have hg4 : w.grownBy w4 (some D) := grown_of_below hb4
  have hxD : w.heap.size ≠ D := by omega
  have p0 := hpc.c0
  have p1 := hpc.c1
  have p2 := hpc.c2
  have lx := hpc.lt
  have HPC := Lib.hid hpc
  clear hw4 hpc hd
  generalize w.heap.size = px at *
  go_region_held3 (fun w' => w'.cell? ⟨px, 0, none⟩ = some (.int .i64 (p : Int)) ∧ w'.cell? ⟨px, 1, none⟩ = some (.int .i64 (n : Int)) ∧ w'.cell? ⟨px, 2, none⟩ = some (.int .i64 (h : Int))) (first | go_keep)
      (first
        | (go_at_call 17; refine (next_nat D _ most _ (by exact hd4) (by omega) (by omega)).mono ?_; rintro e w5 ⟨m0, rfl, hm0, hD5, hg5⟩; have hg5' : w4.grownBy w5 (some D) := (grown_undrew hg5); have hgw5 := grown_trans hg4 hg5'; have HP5 := Lib.hid (HPC.out.mv hg5' hxD); have q0 := HP5.out.c0; have q1 := HP5.out.c1; have q2 := HP5.out.c2; have ew : IntKind.i64.wrap (1 + (m0:Int)) = 1 + (m0:Int) := (IntWalk.i64_in _ (by omega)))
        | (go_at_call 16; refine (elements_at D _ p (1 + m0) _ _ (by omega) hD5 h1 hp2 (by omega)).mono ?_; intro e w6 he; obtain ⟨SA, sc, sec, R6, rfl, hsl, hsp, hS, hD6, hg6⟩ := elems_held hD5.lt he; have HSL := Lib.hid hsl; clear hsl; have hgw6 := grown_trans hgw5 hg6; have HP6 := Lib.hid (HP5.out.mv hg6 hxD); have r0 := HP6.out.c0; have r1 := HP6.out.c1; have r2 := HP6.out.c2))
  have HSEC := Lib.hid hS
  have HSP := Lib.hid hsp
  have hsl1 : sec.length ≤ most := by have := HSL.out; omega
  have hsl2 : 1 ≤ sec.length := by have := HSL.out; omega
  have lx6 := HP6.out.lt
  have hlD6 := hD6.lt
  clear he hS hsp hg6 hD5 hg5 hg5' q0 q1 q2 p0 p1 p2 HP5 HPC HSL hm0 ew hgw5 hg4 hb4 hd4
  go_wp2_with fail
  obtain ⟨rl, hrl⟩ : ∃ rl, rl = sec.length * (n - 1) := ⟨_, rfl⟩
  have hrl2 : rl ≤ 1048576 := by rw [hrl]; have := Nat.mul_le_mul hsl1 (show n - 1 ≤ 7 by omega); omega
  have HRN := Lib.hid (fun (W : World) => refRandom_nat p n h sec.length rl W hrl hn1 (by omega) (by omega))
  have HRL := Lib.hid hrl
  clear hrl
  go_region_held3 (fun w' => w'.cell? ⟨px, 0, none⟩ = some (.int .i64 (p : Int)) ∧ w'.cell? ⟨px, 1, none⟩ = some (.int .i64 (n : Int)) ∧ w'.cell? ⟨px, 2, none⟩ = some (.int .i64 (h : Int))) (first | go_keep)
      (first
        | (go_at_call 24; refine ret_below (HRN.out _) ?_; intro w7 hb7; have hb7' : Below w6.heap.size w6 w7 := (below_undrew1 hb7); have hD7 := hD6.below hb7'; have hgw7 := grown_trans hgw6 (grown_of_below hb7' : w6.grownBy w7 (some D)); have HP7 := Lib.hid (HP6.out.below hb7'); have q0 := HP7.out.c0; have q1 := HP7.out.c1; have q2 := HP7.out.c2)
        | (go_at_call 16; refine (elements_any D _ p rl _ hD7 h1 hp2 hrl2).mono ?_; intro e w8 he; obtain ⟨RA, rc, ran, R8, rfl, hrnl, hrp, hR, hD8, hg8⟩ := elems_held hD7.lt he; have HRNL := Lib.hid hrnl; clear hrnl; have hgw8 := grown_trans hgw7 hg8; have HP8 := Lib.hid (HP7.out.mv hg8 hxD); have s0 := HP8.out.c0; have s1 := HP8.out.c1; have s2 := HP8.out.c2; have HSEC8 := Lib.hid ((HSEC.out.below hb7').mv hg8))
        | (go_at_call 21; refine (refDeal_made HPN.out HSEC8.out.nats hR.nats hR.ok (by omega) HSP.out hrp (by exact HRNL.out.trans HRL.out) (by have := HRNL.out; omega) rfl rfl).mono ?_; rintro e w9 ⟨NA, nc, rfl, hN, hb9⟩; have hD9 := hD8.below hb9; have hgw9 := grown_trans hgw8 (grown_of_below hb9 : w8.grownBy w9 (some D)); have HP9 := Lib.hid (HP8.out.below hb9); have t0 := HP9.out.c0; have t1 := HP9.out.c1; have t2 := HP9.out.c2))
  have HX := Lib.hid (show DealtP D p n h most w (.returned (.tuple #[.slice SA sec.length sc, .slice NA h nc])) w9 from ⟨SA, sc, sec, NA, nc, ran, _, rfl, ⟨hsl2, hsl1, HSP.out, hrp, HRNL.out.trans HRL.out⟩, HSEC8.out.below hb9, hN.away hD8.lt, hD9, hgw9⟩)
  clear he hrp hR hD8 hg8 hD7 hD6 HP8 HP7 HP6 HSEC8 HSEC q0 q1 q2 s0 s1 s2 r0 r1 r2 hb9 hb7 hb7' HRN hN hD9 hgw9 hgw8 hgw7 hgw6
  go_wp2_with fail
  go_ret2
  exact HX.out
end Go.Proofs.YtkjpnhhkebbmdaaDoor
namespace Go.Proofs.YtkjpnhhkebbmdaaDoor
open Go.RowKit

set_option maxRecDepth 100000 in
set_option maxHeartbeats 4000000 in
theorem same_sh {P P' : Nat → Prop} (A A' : Option Addr) (S : List Shr) (c c' k k' : Nat) (w : World) (hA : ShP P w A c S) (hA' : ShP P' w A' c' S) (hsh : Short S) (hl : S.length ≤ 1048576) (hk : k = S.length) (hk' : k' = S.length) :
    Calls Tryd.prog 22 #[.slice A k c, .slice A' k' c'] w (RetB (.bool true) w) := by
  subst hk
  have hkk : k' = S.length := hk'
  subst hkk
  have HA := Lib.hid hA
  have HA' := Lib.hid hA'
  have HSH := Lib.hid hsh
  have t0 : ((S.length : Int) != (S.length : Int)) = false := by simp
  clear hA hA' hsh hk'
  go_enter Tryd.func22, Tryd.ntmps22
  go_wp2_with fail
  go_loopw [14] (fun i wr => ∃ k : Nat, k ≤ S.length ∧ i = .int .i64 k ∧ Below w.heap.size w wr) (fun i _ => S.length - (intOf i).toNat)
  case atStart => exact ⟨0, Nat.zero_le _, rfl, Below.refl _ _⟩
  case round =>
    obtain ⟨k, hk, rfl, hbr⟩ := hrel
    by_cases hlt : k < S.length
    · obtain ⟨b, off, B, c1, rfl, hb, -, x0, x1, x2⟩ := (HA.out.below hbr).at_ k hlt
      obtain ⟨b', off', B', c1', rfl, hb', -, y0, y1, y2⟩ := (HA'.out.below hbr).at_ k hlt
      have hvl := HSH.out k hlt
      have i1 : (0 : Int) ≤ (k : Int) := by omega
      have i2 : (k : Int) < (S.length : Int) := by omega
      generalize vS S k = L at *
      generalize hS S k = x at *
      have HX := Lib.hid x2
      have HY := Lib.hid y2
      have t1 : (x != x) = false := by simp
      clear x2 y2
      go_wp2_with fail
      refine gen_world fun w1 hw1 => ?_
      have hb1 : Below wr.heap.size wr w1 := by rw [hw1]; exact below_alloc _ _
      have hsc : ShCell w1 wr.heap.size x (.slice B L.length c1) := by rw [hw1]; exact ShCell.new _ _ rfl
      have s0 := hsc.c0
      have s1 := hsc.c1
      have z0 := (hb1.cell (p := ⟨b', off' + k * 2, none⟩) hb').trans y0
      have z1 := (hb1.cell (p := ⟨b', off' + k * 2 + 1, none⟩) hb').trans y1
      have HX1 := Lib.hid ((HX.out.keep (Kept.below hb1)).ints)
      have HY1 := Lib.hid ((HY.out.keep (Kept.below hb1)).ints)
      have hbw := hbr.trans (hb1.mono hbr.size)
      clear hw1 hsc x0 x1 y0 y1
      go_quiet ((go_at_call 28; exact Calls.quiet_of_same (same_refl B B' L c1 c1' _ HX1.out HY1.out (by omega))))
      go_wp2_with fail
      go_roundw
      case rel => exact ⟨k + 1, by omega, by go_num, below_drewN hbw _⟩
      case measure => simp [intOf]; omega
    · go_wp2_with fail
      go_ret
      exact RetB.bool rfl hbr

/-! ### Sums of two lists in order -/
theorem fmul_one {p x : Nat} (h : x < p) : fmul p 1 x = x := by unfold fmul; rw [Nat.one_mul, Nat.mod_eq_of_lt h]
theorem lin_sumV {p : Nat} (hp : 1 ≤ p) {L M : List Nat} (h : L.length = M.length) : linN p L M 1 = sumV p L M 1 := by
  refine extN (by rw [linN_len, sumV_len h, h]; simp) fun i hi => ?_
  rw [linN_len] at hi
  rw [linN_nth hi, sumV_nth hp h (by omega)]
def InOrd (N : List ShN) : Prop := ∀ k, k < N.length → hN N k = k + 1
theorem deal_ord (p n h : Nat) (sec ran : List Nat) : InOrd (dealN p n h sec ran) := fun k hk => by
  rw [deal_len] at hk
  unfold dealN
  rw [(dealtT_at hk).1]
/-- Each share of N and the one of M at the same place. -/
def plusT (p : Nat) (N M : List ShN) : List ShN := (List.range N.length).map fun k => (hN N k, linN p (vN N k) (vN M k) 1)
theorem plusT_len (p : Nat) (N M : List ShN) : (plusT p N M).length = N.length := by simp [plusT]
theorem plusT_at {p k : Nat} {N M : List ShN} (h : k < N.length) : hN (plusT p N M) k = hN N k ∧ vN (plusT p N M) k = linN p (vN N k) (vN M k) 1 := by
  simp [plusT, hN, vN, List.getD_eq_getElem?_getD, h]
theorem plusT_ord {p : Nat} {N M : List ShN} (h : InOrd N) : InOrd (plusT p N M) := fun k hk => by
  rw [plusT_len] at hk
  rw [(plusT_at hk).1]; exact h k hk
/-- What is known of shares of a list that all holders have, in order. -/
structure Full (p n h : Nat) (sec : List Nat) (N : List ShN) : Prop where
  made : Made p n h sec N
  ord : InOrd N
  len : N.length = h
theorem Full.deal {p n h : Nat} {sec ran : List Nat} (P : PlanN p n h) (hs : ∀ x ∈ sec, x < p) (hr : ∀ x ∈ ran, x < p) : Full p n h sec (dealN p n h sec ran) :=
  ⟨deal_Made P hs hr, deal_ord _ _ _ _ _, deal_len _ _ _ _ _⟩
theorem Made.good {p n h : Nat} {sec : List Nat} {N : List ShN} (H : Made p n h sec N) (hp : 1 ≤ p) (hm : sec.length ≤ 2048) : GoodN p h N := by
  obtain ⟨F, h1, h2, h3⟩ := H.ex
  exact h1.good hp hm
theorem Made.vlen {p n h : Nat} {sec : List Nat} {N : List ShN} (H : Made p n h sec N) {k : Nat} (hk : k < N.length) : (vN N k).length = sec.length := by
  obtain ⟨F, h1, h2, h3⟩ := H.ex
  rw [(h1.at_ hk).2.2]; simp
theorem plus_add {p : Nat} {N M : List ShN} (hp : 1 ≤ p) (hl : ∀ k, k < N.length → (vN N k).length = (vN M k).length) : plusT p N M = addT p 1 N M := by
  unfold plusT addT
  refine List.map_congr_left fun k hk => ?_
  have hk := List.mem_range.1 hk
  rw [lin_sumV hp (hl k hk)]
theorem Full.plus {p n h : Nat} {a b : List Nat} {N M : List ShN} (P : PlanN p n h) (H : Full p n h a N) (K : Full p n h b M) (hab : a.length = b.length) : Full p n h (linN p a b 1) (plusT p N M) := by
  have hl : M.length = N.length := K.len.trans H.len.symm
  have e : plusT p N M = addT p 1 N M := plus_add P.p1 (fun k hk => by rw [H.made.vlen hk, K.made.vlen (by omega), hab])
  refine ⟨by rw [e]; exact H.made.add P.p1 K.made hab hl (fun k hk => by rw [H.ord k hk, K.ord k (by omega)]), plusT_ord H.ord, by rw [plusT_len, H.len]⟩
theorem lin_zero {p : Nat} {a : List Nat} (h : ∀ x ∈ a, x < p) : linN p a (List.replicate a.length 0) 1 = a := by
  refine extN (by rw [linN_len]; simp) fun i hi => ?_
  rw [linN_len] at hi
  rw [linN_nth hi]
  have hi' : i < a.length := by simpa using hi
  have : nthN (List.replicate a.length 0) i = 0 := by simp [nthN, List.getD_eq_getElem?_getD, hi']
  rw [this]
  unfold fadd fmul
  rw [Nat.mul_zero, Nat.zero_mod, Nat.add_zero, Nat.mod_eq_of_lt (h _ (nthN_mem hi'))]
end Go.Proofs.YtkjpnhhkebbmdaaDoor
namespace Go.Proofs.YtkjpnhhkebbmdaaDoor
open Go.RowKit

attribute [local go_sem high] sliced_low
/-- The numbers of such a plan are no great ones. -/
structure AnyB (p n h : Int) : Prop where
  p1 : -7 ≤ p
  p2 : p ≤ 1073741827
  n1 : -1 ≤ n
  n2 : n ≤ 1073741827
  h1 : 0 ≤ h
  h2 : h ≤ 1073741827
def AnyR (D : Nat) (w : World) (e : Ending) (w' : World) : Prop := ∃ (p n h : Int) (R' : List Int), e = .returned (planV p n h) ∧ AnyB p n h ∧ DiceAt w' D R' ∧ w.grownBy w' (some D)
def litP : List Int := [0, 1, 4, 9, -7, 1073741824, 1073741827, 500000004]
theorem litP_bd (k : Nat) (hk : k < 8) : -7 ≤ nth litP k ∧ nth litP k ≤ 1073741827 := by
  have : ∀ k, k < 8 → -7 ≤ nth litP k ∧ nth litP k ≤ 1073741827 := by decide
  exact this k hk
theorem lit_bd {L : List Int} {lo hi : Int} (h : ∀ x ∈ L, lo ≤ x ∧ x ≤ hi) {k : Nat} (hk : k < L.length) : lo ≤ nth L k ∧ nth L k ≤ hi := by rw [nth_eq hk]; exact h _ (List.getElem_mem hk)
theorem PlanCell.set0 {w : World} {x : Nat} {p n h : Int} (H : PlanCell w x p n h) (y : Int) : PlanCell (w.setCell ⟨x, 0, none⟩ (.int .i64 y)) x y n h := by
  unfold PlanCell at H ⊢; simp [World.setCell, Array.getElem?_modify, H]
theorem PlanCell.set1 {w : World} {x : Nat} {p n h : Int} (H : PlanCell w x p n h) (y : Int) : PlanCell (w.setCell ⟨x, 1, none⟩ (.int .i64 y)) x p y h := by
  unfold PlanCell at H ⊢; simp [World.setCell, Array.getElem?_modify, H]
theorem PlanCell.set2 {w : World} {x : Nat} {p n h : Int} (H : PlanCell w x p n h) (y : Int) : PlanCell (w.setCell ⟨x, 2, none⟩ (.int .i64 y)) x p n y := by
  unfold PlanCell at H ⊢; simp [World.setCell, Array.getElem?_modify, H]
theorem PlanCell.other {w : World} {x : Nat} {p n h : Int} (H : PlanCell w x p n h) (q : Addr) (u : Value) (hq : x ≠ q.block) : PlanCell (w.setCell q u) x p n h :=
  H.keep (Below.heap_setCell w q u x hq)

/-- What stands while such a plan is made. -/
structure ApW (w0 w : World) (D r x : Nat) (R : List Int) (p n h : Int) : Prop where
  dice : DiceAt w D R
  grown : w0.grownBy w (some D)
  r0 : PlanCell w r 0 0 0
  x0 : PlanCell w x p n h
  rlo : w0.heap.size ≤ r
  xlo : w0.heap.size ≤ x
  ne : r ≠ x
theorem ApW.dlt {w0 w : World} {D r x : Nat} {R : List Int} {p n h : Int} (H : ApW w0 w D r x R p n h) (hD : D < w0.heap.size) : D ≠ r ∧ D ≠ x := ⟨by have := H.rlo; omega, by have := H.xlo; omega⟩
theorem ApW.mv {w0 w w' : World} {D r x : Nat} {R R' : List Int} {p n h : Int} (H : ApW w0 w D r x R p n h) (hD : D < w0.heap.size) (hd : DiceAt w' D R') (hg : w.grownBy w' (some D)) : ApW w0 w' D r x R' p n h :=
  ⟨hd, grown_trans H.grown hg, H.r0.keep (hg.block r H.r0.lt (fun e => by injection e with e; have := H.rlo; omega)), H.x0.keep (hg.block x H.x0.lt (fun e => by injection e with e; have := H.xlo; omega)), H.rlo, H.xlo, H.ne⟩
theorem ApW.alloc {w0 w : World} {D r x : Nat} {R : List Int} {p n h : Int} (H : ApW w0 w D r x R p n h) (o : Obj) : ApW w0 (w.alloc o) D r x R p n h :=
  ⟨H.dice.alloc o, grown_trans H.grown (grown_of_below (below_alloc w o)), H.r0.alloc o, H.x0.alloc o, H.rlo, H.xlo, H.ne⟩
theorem ApW.set {w0 w w' : World} {D r x : Nat} {R : List Int} {p n h p' n' h' : Int} (H : ApW w0 w D r x R p n h) (hD : D < w0.heap.size) (j : Nat) (y : Int) (hw : w' = w.setCell ⟨x, j, none⟩ (.int .i64 y)) (hx : PlanCell w' x p' n' h') : ApW w0 w' D r x R p' n' h' := by
  subst hw
  exact ⟨H.dice.setCell _ _ (by have := H.xlo; show D < x; omega), grown_set H.grown _ _ H.xlo, H.r0.other _ _ H.ne, hx, H.rlo, H.xlo, H.ne⟩
def setQ (w : World) (x : Nat) (p n h : Int) : World := ((w.setCell ⟨x, 0, none⟩ (.int .i64 p)).setCell ⟨x, 1, none⟩ (.int .i64 n)).setCell ⟨x, 2, none⟩ (.int .i64 h)
theorem ApW.fin {w0 w : World} {D r x : Nat} {R : List Int} {p n h : Int} (H : ApW w0 w D r x R p n h) (hD : D < w0.heap.size) :
    DiceAt (setQ w r p n h) D R ∧ w0.grownBy (setQ w r p n h) (some D) ∧ PlanCell (setQ w r p n h) r p n h := by
  have hr := H.rlo
  refine ⟨((H.dice.setCell _ _ (by show D < r; omega)).setCell _ _ (by show D < r; omega)).setCell _ _ (by show D < r; omega), grown_set (grown_set (grown_set H.grown _ _ hr) _ _ hr) _ _ hr, H.r0.fill p n h⟩

theorem finA {w0 w : World} {D r : Nat} {R : List Int} {p n h : Int} (H : DiceAt w D R ∧ w0.grownBy w (some D) ∧ PlanCell w r p n h) (o : Obj) : DiceAt (w.alloc o) D R ∧ w0.grownBy (w.alloc o) (some D) ∧ PlanCell (w.alloc o) r p n h :=
  ⟨H.1.alloc o, grown_trans H.2.1 (grown_of_below (below_alloc w o)), H.2.2.alloc o⟩
theorem lit_late (w : World) (L : List Int) (k : Nat) (hk : k < L.length) : (w.alloc (.cells (L.map (Value.int .i64)).toArray 3)).cell? ⟨w.heap.size, k, none⟩ = some (.int .i64 (nth L k)) :=
  IntBlk.cell (heap_alloc_new w _) k hk
theorem lit_list (L : List Int) (k : Nat) (hk : k < L.length) : (L.map (Value.int .i64))[k]? = some (.int .i64 (nth L k)) := by rw [List.getElem?_map, nth_eq hk, List.getElem?_eq_getElem hk]; rfl
theorem lit_early {w w' : World} (L : List Int) {D k : Nat} (hg : (w.alloc (.cells (L.map (Value.int .i64)).toArray 3)).grownBy w' (some D)) (hD : D < w.heap.size) (hk : k < L.length) : w'.cell? ⟨w.heap.size, k, none⟩ = some (.int .i64 (nth L k)) :=
  (grown_cell hg _ _ (by simp) (by omega)).trans (lit_late w L k hk)
theorem enter_next (args : Array Value) (w : World) : (callFunc 17 args).run Tryd.prog w = .ok (.enter 17 args) w :=
  Go.MuLone.run_callFunc_enter Tryd.func17 (by kernel_rfl) rfl args w
theorem step_next {ops : Array Oper} {o : Oper} {a : Act} {K : Act → World → Prop} {Q : Exit → Act → World → Prop} {E : Prop} {D : Nat} {R : List Int} (W : World) (hgd : o.guard = none) (s : Operand) (n : Int)
    (ho : o.op = .call { callee := .value (.func 17), args := #[s, .const (.int .i64 n)], argTypes := #[27, 3] })
    (hs : a.eval s = .pointer (some ⟨D, 0, none⟩)) (hd : DiceAt W D R) (h1 : 1 ≤ n) (hn : n ≤ 4611686018427387904)
    (hK : ∀ (k : Nat) w', (k : Int) < n → DiceAt w' D R.tail → W.grownBy w' (some D) → K (a.put o.dst (.int .i64 (k : Int))) w') :
    if Region.wanted o (yielded ops a.tmps) = true then Oper.wp Tryd.prog o a W K Q else E := by
  refine step_call W hgd _ _ _ ho enter_next #[.pointer (some ⟨D, 0, none⟩), .int .i64 n] (by rw [← hs]; simp [Act.eval]) (next_nat D R n W hd h1 hn) ?_
  rintro e w' ⟨k, rfl, hk, hD, hg⟩
  exact ⟨_, rfl, hK k w' hk hD hg⟩
set_option maxRecDepth 100000 in
set_option maxHeartbeats 4000000 in
theorem anyPlan_any (D : Nat) (R : List Int) (w : World) (hd : DiceAt w D R) :
    Calls Tryd.prog 13 #[.pointer (some ⟨D, 0, none⟩)] w (AnyR D w) := by
  have hlt := hd.lt
  go_enter Tryd.func13, Tryd.ntmps13
  go_wp2_with fail
  refine (prime_any D R _ (hd.alloc _)).mono ?_
  rintro e w1 ⟨p, rfl, hpp, hp5, -, hD1, hg1⟩
  have hp2 := hpp.1
  have hX1 : PlanCell w1 w.heap.size 0 0 0 := (hg1.block w.heap.size (by simp) (fun e => by injection e with e; omega)).trans (PlanCell.new 0 0 0 rfl)
  have HGW := Lib.hid (grown_trans (grown_of_below (r := some D) (below_alloc w (.cells #[.int .i64 0, .int .i64 0, .int .i64 0] 24))) hg1)
  have HX1 := Lib.hid hX1
  have hz1 := hX1.lt
  clear hg1 hX1 hpp hd
  go_wp2_with fail
  refine (plan_any D _ p _ hD1 hp2 (by omega)).mono ?_
  rintro e w2 ⟨n, h, R2, rfl, ⟨hn1, hnh, hh7, hhp⟩, hD2, hg2⟩
  have HX2 := Lib.hid (HX1.out.keep (hg2.block _ hz1 (fun e => by injection e with e; omega)))
  have HG2 := Lib.hid (grown_trans HGW.out hg2)
  have hz2 := hg2.size
  clear hg2 HX1 HGW hD1
  go_wp2_with fail
  refine gen_calls fun w3 hw3 => ?_
  have HA : Hid (ApW w w3 D w.heap.size w2.heap.size R2 p n h) := Lib.hid (by
    rw [hw3]
    exact ⟨hD2.alloc _, grown_trans HG2.out (grown_of_below (below_alloc _ _)), HX2.out.alloc _, PlanCell.new _ _ _ rfl, Nat.le_refl _, by omega, by omega⟩)
  have hx3 : w.heap.size ≤ w2.heap.size := by omega
  obtain ⟨x, hx⟩ : ∃ x, x = w2.heap.size := ⟨_, rfl⟩
  rw [← hx] at HA hx3
  rw [← hx]
  clear hw3 hx HG2 HX2 hD2
  have q0 := HA.out.x0.c0
  have g0 := HA.out.r0.c0
  have q1 := HA.out.x0.c1
  have g1 := HA.out.r0.c1
  have q2 := HA.out.x0.c2
  have g2 := HA.out.r0.c2
  refine (next_nat D _ 12 _ HA.out.dice (by omega) (by omega)).mono ?_
  rintro e w4 ⟨m, rfl, hm, hD4, hg4⟩
  replace HA := Lib.hid (HA.out.mv hlt hD4 hg4)
  replace q0 := HA.out.x0.c0
  replace g0 := HA.out.r0.c0
  replace q1 := HA.out.x0.c1
  replace g1 := HA.out.r0.c1
  replace q2 := HA.out.x0.c2
  replace g2 := HA.out.r0.c2
  clear hD4 hg4
  by_cases h1 : m = 1
  · subst h1
    go_wp2_with fail
    refine (next_nat D _ 8 _ (HA.out.alloc _).dice (by omega) (by omega)).mono ?_
    rintro e w5 ⟨k, rfl, hk, hD5, hg5⟩
    have hI := (lit_ints w4 litP).grown hg5 (fun b off e => by injection e with e; injection e with e1; have := HA.out.dice.lt; omega)
    replace HA := Lib.hid ((HA.out.alloc _).mv hlt hD5 hg5)
    clear hD5 hg5
    obtain ⟨b, off, e, hbl, hcell⟩ := hI k (by show k < 8; omega)
    injection e with e
    injection e with e1 e2
    subst e1; subst e2
    rw [Nat.zero_add] at hcell
    have HBD := Lib.hid (lit_bd (L := litP) (lo := -7) (hi := 1073741827) (by decide) (k := k) (by show k < 8; omega))
    generalize nth litP k = y at *
    clear hI
    replace q0 := HA.out.x0.c0
    replace g0 := HA.out.r0.c0
    replace q1 := HA.out.x0.c1
    replace g1 := HA.out.r0.c1
    replace q2 := HA.out.x0.c2
    replace g2 := HA.out.r0.c2
    have f0 := HA.out.x0.frozen 0
    have f1 := HA.out.x0.frozen 1
    have f2 := HA.out.x0.frozen 2
    have k0 := HA.out.r0.frozen 0
    have k1 := HA.out.r0.frozen 1
    have k2 := HA.out.r0.frozen 2
    have e1 : ¬ x = w.heap.size := fun e => HA.out.ne e.symm
    have e2 : ¬ w.heap.size = x := HA.out.ne
    go_wp2_with fail
    have HF := Lib.hid (ApW.fin (HA.out.set hlt 0 y rfl (HA.out.x0.set0 y)) hlt)
    refine bodyPost_ret (results_plan rfl _ _ w.heap.size rfl HF.out.2.2) rfl ⟨y, n, h, _, rfl, ⟨HBD.out.1, HBD.out.2, by omega, by omega, by omega, by omega⟩, HF.out.1, HF.out.2.1⟩
  · by_cases h2 : m = 2
    · subst h2
      have f0 := HA.out.x0.frozen 0
      have f1 := HA.out.x0.frozen 1
      have f2 := HA.out.x0.frozen 2
      have k0 := HA.out.r0.frozen 0
      have k1 := HA.out.r0.frozen 1
      have k2 := HA.out.r0.frozen 2
      have e1 : ¬ x = w.heap.size := fun e => HA.out.ne e.symm
      have e2 : ¬ w.heap.size = x := HA.out.ne
      go_wp2_with fail
      go_region_law (first
          | (refine step_next _ rfl (.tmp 24) 3 rfl rfl (by exact HA.out.dice) (by omega) (by omega) ?_; intro k w5 hk hD5 hg5; have hg6 : w4.grownBy w5 (some D) := (by first | exact hg5 | exact grown_undrew hg5); replace HA := Lib.hid (HA.out.mv hlt hD5 hg6); replace q0 := HA.out.x0.c0; replace g0 := HA.out.r0.c0; replace f0 := HA.out.x0.frozen 0; replace k0 := HA.out.r0.frozen 0; replace q1 := HA.out.x0.c1; replace g1 := HA.out.r0.c1; replace f1 := HA.out.x0.frozen 1; replace k1 := HA.out.r0.frozen 1; replace q2 := HA.out.x0.c2; replace g2 := HA.out.r0.c2; replace f2 := HA.out.x0.frozen 2; replace k2 := HA.out.r0.frozen 2; have lx5 := HA.out.x0.lt; have lr5 := HA.out.r0.lt; have hcell := lit_list [0, -1, IntKind.i64.wrap ((h : Int) + 1)] k (show k < 3 by omega); simp only [List.map] at hcell; have HW := Lib.hid (fun (y : Int) (o : Obj) => finA (ApW.fin (HA.out.set hlt 1 y rfl (HA.out.x0.set1 y)) hlt) o))
          | (refine step_next _ rfl (.tmp 24) 3 rfl rfl (by exact (HA.out.alloc _).dice) (by omega) (by omega) ?_; intro k w5 hk hD5 hg5; have hg6 : (w4.alloc (.cells #[.int .i64 0, .int .i64 (-1), .int .i64 (IntKind.i64.wrap ((h : Int) + 1))] 3)).grownBy w5 (some D) := (by first | exact hg5 | exact grown_undrew hg5); have hcell := lit_early [0, -1, IntKind.i64.wrap ((h : Int) + 1)] hg6 (by have := HA.out.dice.lt; omega) (show k < 3 by omega); replace HA := Lib.hid ((HA.out.alloc _).mv hlt hD5 hg6); replace q0 := HA.out.x0.c0; replace g0 := HA.out.r0.c0; replace f0 := HA.out.x0.frozen 0; replace k0 := HA.out.r0.frozen 0; replace q1 := HA.out.x0.c1; replace g1 := HA.out.r0.c1; replace f1 := HA.out.x0.frozen 1; replace k1 := HA.out.r0.frozen 1; replace q2 := HA.out.x0.c2; replace g2 := HA.out.r0.c2; replace f2 := HA.out.x0.frozen 2; replace k2 := HA.out.r0.frozen 2; have lx5 := HA.out.x0.lt; have lr5 := HA.out.r0.lt; have HW := Lib.hid (fun (y : Int) => ApW.fin (HA.out.set hlt 1 y rfl (HA.out.x0.set1 y)) hlt)))
      all_goals
        have HBD := Lib.hid (lit_bd (L := [0, -1, IntKind.i64.wrap ((h : Int) + 1)]) (lo := -1) (hi := 1073741827) (by intro z hz; simp at hz; rcases hz with rfl | rfl | rfl <;> (try rw [IntWalk.i64_in _ (by omega)]) <;> omega) (k := k) (by show k < 3; omega))
        generalize nth [0, -1, IntKind.i64.wrap ((h : Int) + 1)] k = y at *
        clear hcell hD5 hg5 hg6
        go_wp2_with fail
        first
        | (refine bodyPost_ret (results_plan rfl _ _ w.heap.size rfl (HW.out y _).2.2) rfl ⟨p, y, h, _, rfl, ⟨by omega, by omega, HBD.out.1, HBD.out.2, by omega, by omega⟩, (HW.out y _).1, (HW.out y _).2.1⟩)
        | (refine bodyPost_ret (results_plan rfl _ _ w.heap.size rfl (HW.out y).2.2) rfl ⟨p, y, h, _, rfl, ⟨by omega, by omega, HBD.out.1, HBD.out.2, by omega, by omega⟩, (HW.out y).1, (HW.out y).2.1⟩)
    · by_cases h3 : m = 3
      · subst h3
        have f0 := HA.out.x0.frozen 0
        have f1 := HA.out.x0.frozen 1
        have f2 := HA.out.x0.frozen 2
        have k0 := HA.out.r0.frozen 0
        have k1 := HA.out.r0.frozen 1
        have k2 := HA.out.r0.frozen 2
        have e1 : ¬ x = w.heap.size := fun e => HA.out.ne e.symm
        have e2 : ¬ w.heap.size = x := HA.out.ne
        go_wp2_with fail
        go_region_law (first
            | (refine step_next _ rfl (.tmp 34) 4 rfl rfl (by exact HA.out.dice) (by omega) (by omega) ?_; intro k w5 hk hD5 hg5; have hg6 : w4.grownBy w5 (some D) := (by first | exact hg5 | exact grown_undrew hg5); replace HA := Lib.hid (HA.out.mv hlt hD5 hg6); replace q0 := HA.out.x0.c0; replace g0 := HA.out.r0.c0; replace f0 := HA.out.x0.frozen 0; replace k0 := HA.out.r0.frozen 0; replace q1 := HA.out.x0.c1; replace g1 := HA.out.r0.c1; replace f1 := HA.out.x0.frozen 1; replace k1 := HA.out.r0.frozen 1; replace q2 := HA.out.x0.c2; replace g2 := HA.out.r0.c2; replace f2 := HA.out.x0.frozen 2; replace k2 := HA.out.r0.frozen 2; have lx5 := HA.out.x0.lt; have lr5 := HA.out.r0.lt; have hcell := lit_list [0, 16, 17, (p : Int)] k (show k < 4 by omega); simp only [List.map] at hcell; have HW := Lib.hid (fun (y : Int) (o : Obj) => finA (ApW.fin (HA.out.set hlt 2 y rfl (HA.out.x0.set2 y)) hlt) o))
            | (refine step_next _ rfl (.tmp 34) 4 rfl rfl (by exact (HA.out.alloc _).dice) (by omega) (by omega) ?_; intro k w5 hk hD5 hg5; have hg6 : (w4.alloc (.cells #[.int .i64 0, .int .i64 16, .int .i64 17, .int .i64 (p : Int)] 3)).grownBy w5 (some D) := (by first | exact hg5 | exact grown_undrew hg5); have hcell := lit_early [0, 16, 17, (p : Int)] hg6 (by have := HA.out.dice.lt; omega) (show k < 4 by omega); replace HA := Lib.hid ((HA.out.alloc _).mv hlt hD5 hg6); replace q0 := HA.out.x0.c0; replace g0 := HA.out.r0.c0; replace f0 := HA.out.x0.frozen 0; replace k0 := HA.out.r0.frozen 0; replace q1 := HA.out.x0.c1; replace g1 := HA.out.r0.c1; replace f1 := HA.out.x0.frozen 1; replace k1 := HA.out.r0.frozen 1; replace q2 := HA.out.x0.c2; replace g2 := HA.out.r0.c2; replace f2 := HA.out.x0.frozen 2; replace k2 := HA.out.r0.frozen 2; have lx5 := HA.out.x0.lt; have lr5 := HA.out.r0.lt; have HW := Lib.hid (fun (y : Int) => ApW.fin (HA.out.set hlt 2 y rfl (HA.out.x0.set2 y)) hlt)))
        all_goals
          have HBD := Lib.hid (lit_bd (L := [0, 16, 17, (p : Int)]) (lo := 0) (hi := 1073741827) (by intro z hz; simp at hz; rcases hz with rfl | rfl | rfl | rfl <;> (try rw [IntWalk.i64_in _ (by omega)]) <;> omega) (k := k) (by show k < 4; omega))
          generalize nth [0, 16, 17, (p : Int)] k = y at *
          clear hcell hD5 hg5 hg6
          go_wp2_with fail
          first
          | (refine bodyPost_ret (results_plan rfl _ _ w.heap.size rfl (HW.out y _).2.2) rfl ⟨p, n, y, _, rfl, ⟨by omega, by omega, by omega, by omega, HBD.out.1, HBD.out.2⟩, (HW.out y _).1, (HW.out y _).2.1⟩)
          | (refine bodyPost_ret (results_plan rfl _ _ w.heap.size rfl (HW.out y).2.2) rfl ⟨p, n, y, _, rfl, ⟨by omega, by omega, by omega, by omega, HBD.out.1, HBD.out.2⟩, (HW.out y).1, (HW.out y).2.1⟩)
      · have h1' : ¬ (m : Int) = 1 := by omega
        have h2' : ¬ (m : Int) = 2 := by omega
        have h3' : ¬ (m : Int) = 3 := by omega
        have f0 := HA.out.x0.frozen 0
        have f1 := HA.out.x0.frozen 1
        have f2 := HA.out.x0.frozen 2
        have k0 := HA.out.r0.frozen 0
        have k1 := HA.out.r0.frozen 1
        have k2 := HA.out.r0.frozen 2
        have e1 : ¬ x = w.heap.size := fun e => HA.out.ne e.symm
        have e2 : ¬ w.heap.size = x := HA.out.ne
        go_wp2_with fail
        have HF := Lib.hid (ApW.fin (HA.out) hlt)
        refine bodyPost_ret (results_plan rfl _ _ w.heap.size rfl HF.out.2.2) rfl ⟨p, n, h, _, rfl, ⟨by omega, by omega, by omega, by omega, by omega, by omega⟩, HF.out.1, HF.out.2.1⟩
end Go.Proofs.YtkjpnhhkebbmdaaDoor
namespace Go.Proofs.YtkjpnhhkebbmdaaDoor
open Go.RowKit

theorem RowsI.grow {w W w' : World} {base g c : Nat} {H : List HV} {T : List Shr} (h : RowsI w base (.slice (some ⟨g, 0, none⟩) H.length c) H T) (k : Nat) (hk : k < T.length) (y : Int) (g' cap : Nat) (hW : Below w.heap.size w W)
    (hown : w'.ownsRow base 3 1 (.slice (some ⟨g', 0, none⟩) ((vS T k).length + 1) cap) ((vS T k).length + 1) (valsI (vS T k ++ [y]))) (hg : W.grownBy w' (hvAt H k).2.ownBlock) (hat : (hvAt H k).2.ownBlock = some g' ∨ g' = W.heap.size) :
    RowsI (w'.setCell ⟨g, k * 2 + 1, none⟩ (.slice (some ⟨g', 0, none⟩) ((vS T k).length + 1) cap)) base (.slice (some ⟨g, 0, none⟩) H.length c) (H.set k ((hvAt H k).1, .slice (some ⟨g', 0, none⟩) ((vS T k).length + 1) cap)) (T.set k (hS T k, vS T k ++ [y])) := by
  have hl := h.len
  have hWs := hW.size
  have hgb : ∀ b, (Value.slice (some ⟨g, 0, none⟩) H.length c).ownBlock = some b → b = g := fun b e => (Option.some.inj (show some g = some b from e)).symm
  have hrg : ∀ j, j < T.length → ∀ b, (hvAt H j).2.ownBlock = some b → b ≠ g := fun j hj b e e2 => h.no j hj b e (by rw [e2]; rfl)
  have hW1 := h.below hW
  have hout := hW1.out.kept hg (by
    rcases he : (hvAt H k).2.ownBlock with _ | b
    · exact .inr (fun e => by cases e)
    · exact .inr (fun e => hrg k hk b he (Option.some.inj (show some g = some b from e)).symm))
  have hg'g : g' ≠ g := by
    rcases hat with e | e
    · exact hrg k hk g' e
    · have := (World.ownsRow.lt h.out g rfl).2; omega
  have hTs : ∀ j, j ≠ k → hS (T.set k (hS T k, vS T k ++ [y])) j = hS T j ∧ vS (T.set k (hS T k, vS T k ++ [y])) j = vS T j := fun j hj => by
    simp [hS, vS, List.getD_eq_getElem?_getD, List.getElem?_set_ne (Ne.symm hj)]
  have hTk : hS (T.set k (hS T k, vS T k ++ [y])) k = hS T k ∧ vS (T.set k (hS T k, vS T k ++ [y])) k = vS T k ++ [y] := by
    simp [hS, vS, List.getD_eq_getElem?_getD, hk]
  have hrows : ∀ j, j < T.length → j ≠ k → w'.ownsRow base 3 1 (hvAt H j).2 (vS T j).length (valsI (vS T j)) := fun j hj hjk => (hW1.row j hj).kept hg (by
    rcases he : (hvAt H j).2.ownBlock with _ | b
    · exact .inl rfl
    · exact .inr (fun e => h.ne j k hj hk hjk b he e.symm))
  have hbk : ∀ j, j < T.length → j ≠ k → ∀ b, (hvAt H j).2.ownBlock = some b → b ≠ g' := fun j hj hjk b e e2 => by
    rcases hat with e3 | e3
    · exact h.ne j k hj hk hjk b e (by rw [e3, e2])
    · have := (World.ownsRow.lt (h.row j hj) b e).2; omega
  have hs := hout.set1 k (by omega) (.slice (some ⟨g', 0, none⟩) ((vS T k).length + 1) cap)
  refine ⟨?_, by simp [hl], fun j hj => ?_, fun j hj => ?_, fun i j hi hj hij b e1 e2 => ?_, fun i hi b e1 e2 => ?_⟩
  · exact hs
  · simp only [List.length_set] at hj
    by_cases hjk : j = k
    · subst hjk; rw [hvAt_set_same _ _ _ (by omega), hTk.1]; exact h.hold j hj
    · rw [hvAt_set_other _ _ _ _ (Ne.symm hjk), (hTs j hjk).1]; exact h.hold j hj
  · simp only [List.length_set] at hj
    by_cases hjk : j = k
    · subst hjk
      rw [hvAt_set_same _ _ _ (by omega), hTk.2, List.length_append]
      exact own_other hown _ _ (fun b e => by
        have : g' = b := Option.some.inj (show some g' = some b from e)
        subst this; exact hg'g)
    · rw [hvAt_set_other _ _ _ _ (Ne.symm hjk), (hTs j hjk).2]
      exact own_other (hrows j hj hjk) _ _ (fun b e => hrg j hj b e)
  · simp only [List.length_set] at hi hj
    by_cases hik : i = k
    · subst hik
      rw [hvAt_set_same _ _ _ (by omega)] at e1
      rw [hvAt_set_other _ _ _ _ hij] at e2
      exact hbk j hj (Ne.symm hij) b e2 (Option.some.inj (show some g' = some b from e1)).symm
    · rw [hvAt_set_other _ _ _ _ (Ne.symm hik)] at e1
      by_cases hjk : j = k
      · subst hjk
        rw [hvAt_set_same _ _ _ (by omega)] at e2
        exact hbk i hi hik b e1 (Option.some.inj (show some g' = some b from e2)).symm
      · rw [hvAt_set_other _ _ _ _ (Ne.symm hjk)] at e2
        exact h.ne i j hi hj hij b e1 e2
  · simp only [List.length_set] at hi
    have hb := hgb b (by simpa using e2)
    by_cases hik : i = k
    · subst hik
      rw [hvAt_set_same _ _ _ (by omega)] at e1
      exact hg'g ((Option.some.inj (show some g' = some b from e1)).trans hb)
    · rw [hvAt_set_other _ _ _ _ (Ne.symm hik)] at e1
      exact hrg i hi b e1 hb


theorem step_app_rowI {ops : Array Oper} {o : Oper} {a : Act} {K : Act → World → Prop} {Q : Exit → Act → World → Prop} {E : Prop} (W : World) (hgd : o.guard = none) (s x : Operand)
    (ho : o.op = .call { callee := .builtin .append, args := #[s, x], argTypes := #[22, 22] })
    (w5 : World) (base : Nat) (v : Value) (S : List Int) (y : Int) (hs : a.eval s = v) (hx : a.eval x = .slice (some ⟨w5.heap.size, 0, none⟩) 1 1)
    (hW : W.heap = (w5.alloc (.cells #[.int .i64 y] 3)).heap ∧ W.os = w5.os ∧ W.tape = w5.tape ∧ W.output = w5.output)
    (hown : w5.ownsRow base 3 1 v S.length (valsI S)) (hl : S.length ≤ 4194304) (hbase : base ≤ w5.heap.size)
    (h : ∀ g cap w', w'.ownsRow base 3 1 (.slice (some ⟨g, 0, none⟩) (S.length + 1) cap) (S.length + 1) (valsI (S ++ [y])) → W.grownBy w' v.ownBlock → Below w5.heap.size w5 W → (v.ownBlock = some g ∨ g = W.heap.size) → Below base w5 w' → K (a.put o.dst (.slice (some ⟨g, 0, none⟩) (S.length + 1) cap)) w') :
    if Region.wanted o (yielded ops a.tmps) = true then Oper.wp Tryd.prog o a W K Q else E := by
  obtain ⟨i0, hi, hz0, hz1, hz2⟩ := info_parts info_int
  have hownW : W.ownsRow base 3 1 v S.length (valsI S) := by
    obtain ⟨h1, h2⟩ := own_below hown (below_alloc w5 (.cells #[.int .i64 y] 3))
    refine ⟨h1, ?_⟩
    rw [hW.1]; exact h2
  have hsz : W.heap.size = w5.heap.size + 1 := by rw [hW.1]; simp
  have hcell : ∀ x, W.cell? x = (w5.alloc (.cells #[.int .i64 y] 3)).cell? x := fun x => by unfold World.cell?; rw [hW.1]
  refine step_append_lies _ hgd s x 22 ho base 3 i0 _ 1 8 Tryd.underlying22 hi hz0 hz1 hz2 rfl (by omega) v S.length (valsI S) hs hownW ⟨w5.heap.size, 0, none⟩ 1 1 (valsI [y]) hx rfl (fun j u hu => (hcell _).trans (IntsAt.news (lit_ints w5 [y]) (.inr rfl) j u hu)) (valsI_one [y]) (by omega) (by unfold maxLen; omega) (by omega) (by omega) _ rfl ?_
  intro g cap w' ho' hg hat _
  have hbW : Below w5.heap.size w5 W := ⟨hW.2.1, hW.2.2.1, hW.2.2.2, by omega, fun k hk => by rw [hW.1]; exact heap_alloc_old w5 _ hk⟩
  refine h g cap w' ?_ hg hbW hat ((hbW.mono hbase).trans ((Below.refl _ _).grown hg (by omega) (fun k hk => by have := (hown.lt k hk).1; omega)))
  simpa [valsI] using ho'


theorem sset_at {S : List Shr} {k : Nat} {x : Int} {L : List Int} (hk : k < S.length) : hS (S.set k (x, L)) k = x ∧ vS (S.set k (x, L)) k = L := by
  simp [hS, vS, List.getD_eq_getElem?_getD, hk]
theorem sset_other {S : List Shr} {k j : Nat} {x : Int} {L : List Int} (h : k ≠ j) : hS (S.set k (x, L)) j = hS S j ∧ vS (S.set k (x, L)) j = vS S j := by
  simp [hS, vS, List.getD_eq_getElem?_getD, List.getElem?_set_ne h]
/-- One share's holder is another. -/
theorem RowsI.hold_set {w : World} {base g c : Nat} {H : List HV} {S : List Shr} (h : RowsI w base (.slice (some ⟨g, 0, none⟩) H.length c) H S) (k : Nat) (hk : k < S.length) (x : Int) :
    RowsI (w.setCell ⟨g, k * 2, none⟩ (.int .i64 x)) base (.slice (some ⟨g, 0, none⟩) H.length c) (H.set k (x, (hvAt H k).2)) (S.set k (x, vS S k)) := by
  have hl := h.len
  have hkH : k < H.length := by omega
  have hrg : ∀ j, j < S.length → ∀ b, (hvAt H j).2.ownBlock = some b → b ≠ g := fun j hj b e e2 => h.no j hj b e (by rw [e2]; rfl)
  have h2 : ∀ j, (hvAt (H.set k (x, (hvAt H k).2)) j).2 = (hvAt H j).2 := fun j => by
    by_cases hjk : k = j
    · subst hjk; rw [hvAt_set_same _ _ _ hkH]
    · rw [hvAt_set_other _ _ _ _ hjk]
  have h3 : ∀ j, vS (S.set k (x, vS S k)) j = vS S j := fun j => by
    by_cases hjk : k = j
    · subst hjk; exact (sset_at hk).2
    · exact (sset_other hjk).2
  refine ⟨h.out.set0 k hkH x, by simp [hl], fun j hj => ?_, fun j hj => ?_, fun i j hi hj hij b e1 e2 => ?_, fun i hi b e1 e2 => ?_⟩
  · simp only [List.length_set] at hj
    by_cases hjk : k = j
    · subst hjk; rw [hvAt_set_same _ _ _ hkH, (sset_at hk).1]
    · rw [hvAt_set_other _ _ _ _ hjk, (sset_other hjk).1]; exact h.hold j hj
  · simp only [List.length_set] at hj
    rw [h2, h3]
    exact own_other (h.row j hj) _ _ (fun b e => hrg j hj b e)
  · simp only [List.length_set] at hi hj
    rw [h2] at e1 e2
    exact h.ne i j hi hj hij b e1 e2
  · simp only [List.length_set] at hi
    rw [h2] at e1
    exact h.no i hi b e1 e2
theorem valsI_set (L : List Int) (j : Nat) (y : Int) : (valsI L).set j (.int .i64 y) = valsI (L.set j y) := by simp [valsI, List.map_set]
/-- A row of the own, one of whose numbers is another. -/
theorem own_set {w : World} {base b c n : Nat} {L : List Int} (h : w.ownsRow base 3 1 (.slice (some ⟨b, 0, none⟩) n c) n (valsI L)) (hn : n = L.length) (j : Nat) (hj : j < L.length) (y : Int) :
    (w.setCell ⟨b, j, none⟩ (.int .i64 y)).ownsRow base 3 1 (.slice (some ⟨b, 0, none⟩) n c) n (valsI (L.set j y)) := by
  subst hn
  obtain ⟨h1, h2⟩ := h
  refine ⟨by simp [valsI], ?_⟩
  rcases h2 with ⟨h2, _⟩ | ⟨g, cap, cur, hv, hg, hh, hnc, hcm, hcs, htk⟩
  · cases h2
  · injection hv with e1 e2 e3
    injection e1 with e1
    injection e1 with e1
    subst e1; subst e3
    refine .inr ⟨b, c, cur.setIfInBounds j (.int .i64 y), rfl, hg, by simp [World.setCell, Array.getElem?_modify, hh], hnc, hcm, by simpa using hcs, ?_⟩
    rw [Array.toList_setIfInBounds, List.take_set, htk, valsI_set]
/-- One share's value is another. -/
theorem RowsI.val_set {w : World} {base b c' : Nat} {v : Value} {H : List HV} {S : List Shr} (h : RowsI w base v H S) (k : Nat) (hk : k < S.length) (hb : (hvAt H k).2 = .slice (some ⟨b, 0, none⟩) (vS S k).length c') (h0 : 0 < (vS S k).length) (y : Int) :
    RowsI (w.setCell ⟨b, 0, none⟩ (.int .i64 y)) base v H (S.set k (hS S k, (vS S k).set 0 y)) := by
  have hl := h.len
  have hob : (hvAt H k).2.ownBlock = some b := by rw [hb]; rfl
  have h3 : ∀ j, k ≠ j → hS (S.set k (hS S k, (vS S k).set 0 y)) j = hS S j ∧ vS (S.set k (hS S k, (vS S k).set 0 y)) j = vS S j := fun j hj => sset_other hj
  refine ⟨own_other h.out _ _ (fun b2 e e2 => h.no k hk b hob (by rw [e, e2])), by simp [hl], fun j hj => ?_, fun j hj => ?_, fun i j hi hj hij b e1 e2 => ?_, fun i hi b e1 e2 => ?_⟩
  · simp only [List.length_set] at hj
    by_cases hjk : k = j
    · subst hjk; rw [(sset_at hk).1]; exact h.hold k hk
    · rw [(h3 j hjk).1]; exact h.hold j hj
  · simp only [List.length_set] at hj
    by_cases hjk : k = j
    · subst hjk
      rw [(sset_at hk).2, List.length_set, hb]
      have hr := h.row k hk
      rw [hb] at hr
      exact own_set hr rfl 0 h0 y
    · rw [(h3 j hjk).2]
      exact own_other (h.row j hj) _ _ (fun b2 e e2 => h.ne k j hk hj hjk b hob (by rw [e, e2]))
  · simp only [List.length_set] at hi hj
    exact h.ne i j hi hj hij b e1 e2
  · simp only [List.length_set] at hi
    exact h.no i hi b e1 e2
theorem RowsI.toV {w : World} {base : Nat} {v : Value} {H : List HV} {S : List Shr} (h : RowsI w base v H S) : ∀ k, k < S.length → (hvAt H k).1 = hS S k ∧ ∃ B c, (hvAt H k).2 = .slice B (vS S k).length c ∧ IntsP (fun b => base ≤ b ∧ v.ownBlock ≠ some b) w B c (vS S k) := fun k hk => by
  obtain ⟨B, c', hv, hN, hS', hb⟩ := own_ints (h.row k hk) rfl
  refine ⟨h.hold k hk, B, c', hv, hN, hS', fun b off e => .inr ⟨(hb b off e).1, fun e2 => h.no k hk b ?_ e2⟩⟩
  have hr := h.row k hk
  rw [hv, e] at hr
  rcases hr.2 with ⟨e3, _⟩ | ⟨g, cap, cur, e3, _⟩
  · cases e3
  · injection e3 with e3
    injection e3 with e3
    injection e3 with e3
    rw [hv, e, e3]; rfl
theorem RowsI.rowsV {w : World} {base : Nat} {v : Value} {H : List HV} {S : List Shr} (h : RowsI w base v H S) : RowsV (fun b => base ≤ b) w base v S := ⟨H, h.out, h.len, h.toV⟩
theorem RowsV.val {Q : Nat → Prop} {w : World} {base g n c k : Nat} {L : List Int} {S : List Shr} {B : Option Addr} {c' : Nat} (h : RowsV Q w base (.slice (some ⟨g, 0, none⟩) n c) S) (hn : n = S.length) (hk : k < S.length) (hI : IntsP (fun b => Q b ∧ b ≠ g) w B c' L) :
    RowsV Q (w.setCell ⟨g, k * 2 + 1, none⟩ (.slice B L.length c')) base (.slice (some ⟨g, 0, none⟩) n c) (S.set k (hS S k, L)) := by
  obtain ⟨H, e1, e2, e3⟩ := h.ex
  have hnH : n = H.length := by omega
  subst hnH
  have hkH : k < H.length := by omega
  have hK : Kept (· ≠ g) w (w.setCell ⟨g, k * 2 + 1, none⟩ (.slice B L.length c')) := ⟨by simp [World.setCell], fun b hb _ => Below.heap_setCell w _ _ b hb⟩
  have hob : ∀ b, (Value.slice (some ⟨g, 0, none⟩) H.length c).ownBlock ≠ some b → b ≠ g := fun b hb e => hb (by rw [e]; rfl)
  have hob2 : ∀ b, b ≠ g → (Value.slice (some ⟨g, 0, none⟩) H.length c).ownBlock ≠ some b := fun b hb e => hb (Option.some.inj (show some g = some b from e)).symm
  refine ⟨H.set k ((hvAt H k).1, .slice B L.length c'), e1.set1 k hkH _, by simp [e2], fun j hj => ?_⟩
  simp only [List.length_set] at hj
  obtain ⟨f1, B2, c2, f2, f3⟩ := e3 j hj
  by_cases hjk : k = j
  · subst hjk
    rw [hvAt_set_same _ _ _ hkH, (sset_at hk).1, (sset_at hk).2]
    exact ⟨f1, B, c', rfl, ⟨hI.ints.keep (fun b off e => (hI.off b off e).imp id (fun h => h.2)) hK, hI.ok, fun b off e => (hI.off b off e).imp id (fun h => ⟨h.1, hob2 b h.2⟩)⟩⟩
  · rw [hvAt_set_other _ _ _ _ hjk, (sset_other hjk).1, (sset_other hjk).2]
    exact ⟨f1, B2, c2, f2, ⟨f3.ints.keep (fun b off e => (f3.off b off e).imp id (fun h => hob b h.2)) hK, f3.ok, f3.off⟩⟩
theorem IntsP.drop1 {P : Nat → Prop} {w : World} {b c : Nat} {L : List Int} (h : IntsP P w (some ⟨b, 0, none⟩) c L) (h0 : 0 < L.length) : IntsP P w (if c = 1 then some ⟨b, 0, none⟩ else some ⟨b, 1, none⟩) (c - 1) (L.drop 1) := by
  have hc := h.ok.len
  have hcm := h.ok.cap
  have hl : (L.drop 1).length = L.length - 1 := by simp
  refine ⟨fun k hk => ?_, ⟨by omega, by omega, (fun e => by split at e <;> cases e), .inr (fun a e => by split at e <;> (injection e with e; subst e; rfl))⟩, fun b2 off e => ?_⟩
  · have h1 : c ≠ 1 := by omega
    obtain ⟨b2, off, e, hlt, hcell⟩ := h.ints (k + 1) (by omega)
    injection e with e
    injection e with e1 e2
    subst e1; subst e2
    rw [if_neg h1]
    refine ⟨b, 1, rfl, hlt, ?_⟩
    rw [show 1 + k = 0 + (k + 1) by omega, hcell]
    rw [nth_eq (show k < (L.drop 1).length from hk), nth_eq (show k + 1 < L.length by omega)]
    simp [Nat.add_comm]
  · rcases h.off b 0 rfl with h1 | h1
    · omega
    · refine .inr ?_
      split at e <;> (injection e with e; injection e with e1 e2; subst e1; exact h1)
end Go.Proofs.YtkjpnhhkebbmdaaDoor
namespace Go.Proofs.YtkjpnhhkebbmdaaDoor
open Go.RowKit

attribute [local go_sem high] sliced_low
def Wide (M : Nat) (S : List Shr) : Prop := ∀ k, k < S.length → (vS S k).length ≤ M
theorem Wide.set {M : Nat} {S : List Shr} {k : Nat} {x : Int} {L : List Int} (h : Wide M S) (hL : L.length ≤ M + 1) : Wide (M + 1) (S.set k (x, L)) := fun j hj => by
  simp only [List.length_set] at hj
  by_cases hjk : k = j
  · subst hjk; rw [(sset_at hj).2]; exact hL
  · rw [(sset_other hjk).2]; have := h j hj; omega
theorem Wide.up {M : Nat} {S : List Shr} (h : Wide M S) : Wide (M + 1) S := fun k hk => by have := h k hk; omega
theorem Wide.app {M : Nat} {S : List Shr} {x : Int} {L : List Int} (h : Wide M S) (hL : L.length ≤ M) : Wide (M + 1) (S ++ [(x, L)]) := fun j hj => by
  by_cases hjs : j < S.length
  · rw [(hS_append hjs).2]; have := h j hjs; omega
  · have : j = S.length := by simp at hj; omega
    subst this
    rw [hS_last.2]; show L.length ≤ M + 1; omega
def OddP (D M : Nat) (S : List Shr) (w : World) (e : Ending) (w' : World) : Prop :=
  ∃ (A : Option Addr) (c : Nat) (S' : List Shr) (R' : List Int), e = .returned (.slice A S'.length c) ∧ ShP (· ≠ D) w' A c S' ∧ S'.length ≤ S.length + 1 ∧ Wide (M + 1) S' ∧ DiceAt w' D R' ∧ w.grownBy w' (some D)
/-- What stands while something is changed. -/
structure OdW (w0 w : World) (D : Nat) (R : List Int) (g c : Nat) (H : List HV) (S : List Shr) : Prop where
  dice : DiceAt w D R
  grown : w0.grownBy w (some D)
  rows : RowsI w w0.heap.size (.slice (some ⟨g, 0, none⟩) H.length c) H S
theorem OdW.mv {w0 w w' : World} {D : Nat} {R R' : List Int} {g c : Nat} {H : List HV} {S : List Shr} (h : OdW w0 w D R g c H S) (hD : D < w0.heap.size) (hd : DiceAt w' D R') (hg : w.grownBy w' (some D)) : OdW w0 w' D R' g c H S :=
  ⟨hd, grown_trans h.grown hg, h.rows.grown hg hD⟩
theorem OdW.alloc {w0 w : World} {D : Nat} {R : List Int} {g c : Nat} {H : List HV} {S : List Shr} (h : OdW w0 w D R g c H S) (o : Obj) : OdW w0 (w.alloc o) D R g c H S :=
  ⟨h.dice.alloc o, grown_trans h.grown (grown_of_below (below_alloc w o)), h.rows.below (below_alloc w o)⟩
theorem OdW.gb {w0 w : World} {D : Nat} {R : List Int} {g c : Nat} {H : List HV} {S : List Shr} (h : OdW w0 w D R g c H S) (_ : 0 < H.length) : g < w.heap.size ∧ w0.heap.size ≤ g := by
  have := World.ownsRow.lt h.rows.out g rfl
  exact ⟨this.2, this.1⟩
theorem OdW.cell {w0 w : World} {D : Nat} {R : List Int} {g c : Nat} {H : List HV} {S : List Shr} (h : OdW w0 w D R g c H S) (k : Nat) (hk : k < H.length) :
    ∃ B c', w.cell? ⟨g, k * 2, none⟩ = some (.int .i64 (hS S k)) ∧ w.cell? ⟨g, k * 2 + 1, none⟩ = some (.slice B (vS S k).length c') ∧ (hvAt H k).2 = .slice B (vS S k).length c' ∧ IntsP (fun b => w0.heap.size ≤ b ∧ b ≠ g) w B c' (vS S k) := by
  obtain ⟨g2, c2, hv, -, -, -, -, hcell, -⟩ := h.rows.out.form (by omega)
  injection hv with e1 e2 e3
  injection e1 with e1
  injection e1 with e1
  subst e1
  obtain ⟨a1, a2⟩ := hcell k hk
  obtain ⟨f1, B, c', f2, f3⟩ := h.rows.toV k (by rw [← h.rows.len]; exact hk)
  exact ⟨B, c', by rw [a1, f1], by rw [a2, f2], f2, f3.mono (fun b _ hb => ⟨hb.1, fun e => hb.2 (by rw [e]; rfl)⟩)⟩
theorem OdW.free {w0 w : World} {D : Nat} {R : List Int} {g c : Nat} {H : List HV} {S : List Shr} (h : OdW w0 w D R g c H S) (h0 : 0 < H.length) (j : Nat) : w.frozen? ⟨g, j, none⟩ = false := by
  obtain ⟨g2, c2, hv, -, -, -, -, -, hfr⟩ := h.rows.out.form h0
  injection hv with e1 e2 e3
  injection e1 with e1
  injection e1 with e1
  subst e1
  exact hfr j
theorem OdW.set {w0 w : World} {D : Nat} {R : List Int} {g c : Nat} {H : List HV} {S : List Shr} (h : OdW w0 w D R g c H S) (hD : D < w0.heap.size) (q : Addr) (u : Value) (hq : w0.heap.size ≤ q.block) : DiceAt (w.setCell q u) D R ∧ w0.grownBy (w.setCell q u) (some D) :=
  ⟨h.dice.setCell _ _ (by omega), grown_set h.grown _ _ hq⟩
theorem OdW.fr0 {w0 w : World} {D : Nat} {R : List Int} {g c : Nat} {H : List HV} {S : List Shr} (h : OdW w0 w D R g c H S) (h0 : 0 < H.length) (k : Nat) : w.frozen? ⟨g, k * 2, none⟩ = false := h.free h0 _
theorem OdW.fr1 {w0 w : World} {D : Nat} {R : List Int} {g c : Nat} {H : List HV} {S : List Shr} (h : OdW w0 w D R g c H S) (h0 : 0 < H.length) (k : Nat) : w.frozen? ⟨g, k * 2 + 1, none⟩ = false := h.free h0 _
theorem OdW.st0 {w0 w : World} {D : Nat} {R : List Int} {g c : Nat} {H : List HV} {S : List Shr} (h : OdW w0 w D R g c H S) (hD : D < w0.heap.size) (hg : w0.heap.size ≤ g) (k : Nat) (u : Value) : DiceAt (w.setCell ⟨g, k * 2, none⟩ u) D R ∧ w0.grownBy (w.setCell ⟨g, k * 2, none⟩ u) (some D) := h.set hD _ u hg
theorem OdW.st1 {w0 w : World} {D : Nat} {R : List Int} {g c : Nat} {H : List HV} {S : List Shr} (h : OdW w0 w D R g c H S) (hD : D < w0.heap.size) (hg : w0.heap.size ≤ g) (k : Nat) (u : Value) : DiceAt (w.setCell ⟨g, k * 2 + 1, none⟩ u) D R ∧ w0.grownBy (w.setCell ⟨g, k * 2 + 1, none⟩ u) (some D) := h.set hD _ u hg
/-- The end: what is handed back. -/
theorem odd_end {w0 w' : World} {D M : Nat} {R : List Int} {v : Value} {S S' : List Shr} (hD : D < w0.heap.size) (hR : RowsV (fun b => w0.heap.size ≤ b) w' w0.heap.size v S') (hl : S'.length ≤ S.length + 1) (hw : Wide (M + 1) S') (hd : DiceAt w' D R) (hg : w0.grownBy w' (some D)) :
    OddP D M S w0 (.returned v) w' := by
  obtain ⟨A, c, rfl, hX⟩ := hR.read
  exact ⟨A, c, S', R, rfl, hX.mono (fun b _ hb => by omega), hl, hw, hd, hg⟩
theorem frzO {w : World} {g : Nat} {c : Array Value} {t : TypeId} (h : w.heap[g]? = some (.cells c t (0, 0))) (j : Nat) : w.frozen? ⟨g, j, none⟩ = false := by
  simp only [World.frozen?, h]; simp
theorem OddP.alloc {D M : Nat} {S : List Shr} {w w' : World} {e : Ending} (h : OddP D M S w e w') (o : Obj) : OddP D M S w e (w'.alloc o) := by
  obtain ⟨A, c, S', R', he, h1, h2, h3, h4, h5⟩ := h
  exact ⟨A, c, S', R', he, h1.below (below_alloc w' o), h2, h3, h4.alloc o, grown_trans h5 (grown_of_below (below_alloc w' o))⟩
theorem OddP.drew {D M : Nat} {S : List Shr} {w w' : World} {e : Ending} (h : OddP D M S w e w') : OddP D M S w e w'.drew := by
  obtain ⟨A, c, S', R', he, h1, h2, h3, h4, h5⟩ := h
  exact ⟨A, c, S', R', he, h1.below (below_drewT w'), h2, h3, h4.drewN 1, grown_drew h5⟩
theorem grown_low {w0 w w' : World} {D : Nat} (h : w0.grownBy w (some D)) (hb : Below w0.heap.size w w') : w0.grownBy w' (some D) :=
  ⟨hb.os.trans h.os, hb.tape.trans h.tape, hb.output.trans h.output, Nat.le_trans h.size hb.size, fun k hk hne => (hb.block k hk).trans (h.block k hk hne)⟩
theorem own_some {w : World} {base n c : Nat} {B : Option Addr} {e : TypeId} {xs : List Value} (h : w.ownsRow base e 1 (.slice B n c) n xs) (h0 : 0 < n) : ∃ b, B = some ⟨b, 0, none⟩ ∧ base ≤ b ∧ b < w.heap.size ∧ ∀ j, w.frozen? ⟨b, j, none⟩ = false := by
  have hlt := World.ownsRow.lt h
  rcases h.2 with ⟨_, h2⟩ | ⟨g, cap, cur, hv, hg, hh, -⟩
  · omega
  · injection hv with e1 e2 e3
    subst e1
    exact ⟨g, rfl, hg, (hlt g rfl).2, frzO hh⟩
theorem OdW.row_free {w0 w : World} {D : Nat} {R : List Int} {g c b c' k : Nat} {H : List HV} {S : List Shr} (h : OdW w0 w D R g c H S) (hk : k < S.length) (hv : (hvAt H k).2 = .slice (some ⟨b, 0, none⟩) (vS S k).length c') (h0 : 0 < (vS S k).length) : w.frozen? ⟨b, 0, none⟩ = false := by
  have hrow := h.rows.row k hk
  rw [hv] at hrow
  obtain ⟨b2, e, -, -, hfr⟩ := own_some hrow h0
  injection e with e; injection e with e
  subst e; exact hfr 0
theorem OdW.row_lt {w0 w : World} {D : Nat} {R : List Int} {g c b c' k : Nat} {H : List HV} {S : List Shr} (h : OdW w0 w D R g c H S) (hk : k < S.length) (hv : (hvAt H k).2 = .slice (some ⟨b, 0, none⟩) (vS S k).length c') (h0 : 0 < (vS S k).length) : b < w.heap.size := by
  have hrow := h.rows.row k hk
  rw [hv] at hrow
  obtain ⟨b2, e, -, hlt, -⟩ := own_some hrow h0
  injection e with e; injection e with e
  subst e; exact hlt
set_option maxRecDepth 100000 in
set_option maxHeartbeats 8000000 in
theorem odd_any {P : Nat → Prop} (D M : Nat) (R : List Int) (A : Option Addr) (c : Nat) (S : List Shr) (w : World) (hd : DiceAt w D R) (hS : ShP P w A c S) (hW : Wide M S) (hM : M ≤ 1000) (hl : S.length ≤ 100000) :
    Calls Tryd.prog 32 #[.pointer (some ⟨D, 0, none⟩), .slice A S.length c] w (OddP D M S w) := by
  have hlt := hd.lt
  have hsh : Short S := fun k hk => by have := hW k hk; omega
  have HW := Lib.hid hW
  have HCP := Lib.hid (copy_any A c S w hS hsh (by omega))
  have HD := Lib.hid hd
  clear hS hsh hd hW
  go_enter Tryd.func32, Tryd.ntmps32
  go_wp2_with fail
  refine HCP.out.mono ?_
  rintro e w1 ⟨v, H, rfl, hR, hb1⟩
  have HR := Lib.hid hR
  have hHS := hR.len
  clear HCP
  rcases Nat.eq_zero_or_pos H.length with h0 | h0
  · obtain ⟨A1, c1, rfl, hX⟩ := hR.read
    have hz : S.length = 0 := by omega
    have HX := Lib.hid (odd_end (D := D) (M := M) (S := S) (S' := S) (R := R) hlt hR.rowsV (by omega) HW.out.up (HD.out.below hb1) (grown_of_below hb1))
    rw [hz] at HX
    clear hR hX hb1 h0 hHS
    go_wp2_with fail
    go_ret
    exact HX.out
  · obtain ⟨g, c1, rfl, -, -, -, -, -, -⟩ := hR.out.form h0
    have HO : Hid (OdW w w1 D R g c1 H S) := Lib.hid ⟨HD.out.below hb1, grown_of_below hb1, HR.out⟩
    have HHS := Lib.hid hHS
    have hHl : H.length ≤ 100000 := by omega
    clear hR hb1 HR HD hHS
    have hne : ¬ (H.length : Int) = 0 := by omega
    go_wp2_with fail
    refine (next_nat D R _ _ HO.out.dice (by omega) (by omega)).mono ?_
    rintro e w2 ⟨i, rfl, hi, hD2, hg2⟩
    replace HO := Lib.hid (HO.out.mv hlt hD2 hg2)
    have hi' : i < H.length := by omega
    have i1 : (0 : Int) ≤ (i : Int) := by omega
    clear hD2 hg2
    go_wp2_with fail
    refine (next_nat D _ 8 _ HO.out.dice (by omega) (by omega)).mono ?_
    rintro e w3 ⟨m, rfl, hm, hD3, hg3⟩
    replace HO := Lib.hid (HO.out.mv hlt hD3 hg3)
    clear hD3 hg3
    obtain ⟨B, cB, q0, q1, hvi, hBI⟩ := HO.out.cell i hi'
    obtain ⟨B0, cB0, z0, z1, hv0, hBI0⟩ := HO.out.cell 0 h0
    have f0 := HO.out.free h0 (i * 2)
    have f1 := HO.out.free h0 (i * 2 + 1)
    have hgl := (HO.out.gb h0).1
    have hgw := (HO.out.gb h0).2
    have hiS : i < S.length := by have := HHS.out; omega
    have hWi := HW.out i hiS
    have HVI := Lib.hid (And.intro hvi hBI)
    have HV0 := Lib.hid (And.intro hv0 hBI0)
    clear hvi hBI hv0 hBI0
    rw [Nat.zero_mul] at z0 z1
    have hWi1 : (vS S i).length ≤ M + 1 := by omega
    have HLS := Lib.hid (show ∀ x : Shr, (S.set i x).length ≤ S.length + 1 from fun x => by simp)
    by_cases m1 : m = 1
    · subst m1
      go_wp2_with fail
      go_region_law (first
          | (refine step_next _ rfl (.tmp 28) 5 rfl rfl (by exact HO.out.dice) (by omega) (by omega) ?_; intro k w5 hk hD5 hg5; have hg6 : w3.grownBy w5 (some D) := (by first | exact hg5 | exact grown_undrew hg5); replace q0 := (grown_cell hg6 _ _ hgl (by omega)).trans q0; replace z0 := (grown_cell hg6 _ _ hgl (by omega)).trans z0; replace HO := Lib.hid (HO.out.mv hlt hD5 hg6); replace f0 := HO.out.fr0 h0 i; have hgl5 := (HO.out.gb h0).1; have hsz5 := hg6.size; have hcell := lit_list [0, 1, -1, 17, hS S 0] k (show k < 5 by omega); simp only [List.map] at hcell; have HF := Lib.hid (fun (y : Int) (o : Obj) => (odd_end hlt (HO.out.rows.hold_set i hiS y).rowsV (HLS.out _) (HW.out.set hWi1) (HO.out.st0 hlt hgw i (.int .i64 y)).1 (HO.out.st0 hlt hgw i (.int .i64 y)).2).alloc o))
          | (refine step_next _ rfl (.tmp 28) 5 rfl rfl (by exact (HO.out.alloc _).dice) (by omega) (by omega) ?_; intro k w5 hk hD5 hg5; have hg6 : (w3.alloc (.cells #[.int .i64 0, .int .i64 1, .int .i64 (-1), .int .i64 17, .int .i64 (hS S 0)] 3)).grownBy w5 (some D) := (by first | exact hg5 | exact grown_undrew hg5); have hcell := lit_early [0, 1, -1, 17, hS S 0] hg6 (by have := HO.out.dice.lt; omega) (show k < 5 by omega); replace q0 := (grown_cell hg6 _ _ (by simp; omega) (by omega)).trans ((World.cell?_alloc_past _ _ _ hgl).trans q0); replace z0 := (grown_cell hg6 _ _ (by simp; omega) (by omega)).trans ((World.cell?_alloc_past _ _ _ hgl).trans z0); replace HO := Lib.hid ((HO.out.alloc _).mv hlt hD5 hg6); replace f0 := HO.out.fr0 h0 i; have hgl5 := (HO.out.gb h0).1; have hsz5 := hg6.size; have HF := Lib.hid (fun (y : Int) => odd_end hlt (HO.out.rows.hold_set i hiS y).rowsV (HLS.out _) (HW.out.set hWi1) (HO.out.st0 hlt hgw i (.int .i64 y)).1 (HO.out.st0 hlt hgw i (.int .i64 y)).2)))
      all_goals
        generalize nth [0, 1, -1, 17, hS S 0] k = y at *
        clear hcell hD5 hg5 hg6
        go_wp2_with fail
        go_ret
        first
        | exact HF.out _ _
        | exact HF.out _
    · by_cases m2 : m = 2
      · subst m2
        go_wp2_with fail
        go_region_law (first
          | (refine step_next _ rfl (.tmp 41) 3 rfl rfl (by exact HO.out.dice) (by omega) (by omega) ?_; intro k w5 hk hD5 hg5; have hg6 : w3.grownBy w5 (some D) := (by first | exact hg5 | exact grown_undrew hg5); replace q1 := (grown_cell hg6 _ _ hgl (by omega)).trans q1; replace HO := Lib.hid (HO.out.mv hlt hD5 hg6); replace f1 := HO.out.fr1 h0 i; have hgl5 := (HO.out.gb h0).1; have hsz5 := HO.out.grown.size; have HOW := Lib.hid (show w5.ownsRow w.heap.size 3 1 (.slice B (vS S i).length cB) (vS S i).length (valsI (vS S i)) from by have := HO.out.rows.row i hiS; rw [HVI.out.1] at this; exact this))
          | (refine step_app_rowI _ rfl (.tmp 40) (.tmp 43) rfl w5 w.heap.size (.slice B (vS S i).length cB) (vS S i) (k : Int) rfl rfl ⟨rfl, rfl, rfl, rfl⟩ HOW.out (by omega) hsz5 ?_; intro g' cap w6 hown6 hg6' hbW6 hat6 hb6; have hbk := grown_blk (g := g) hgl5 (Below.refl _ _) hbW6 hg6' (fun e => HO.out.rows.no i hiS g (by rw [HVI.out.1]; exact e.symm) rfl); have n2 := (World.cell?_of_block (a := ⟨g, i * 2 + 1, none⟩) hbk).trans q1; have n3 := (frozen_of_block (o := i * 2 + 1) hbk).trans f1; have hgl6 : g < w6.heap.size := (Nat.lt_of_lt_of_le hgl5 hb6.size)))
        all_goals
          have hGR := HO.out.rows.grow i hiS (k : Int) g' cap hbW6 hown6 (by rw [HVI.out.1]; exact hg6') (by rw [HVI.out.1]; exact hat6)
          have hdc : DiceAt w6 D R.tail.tail.tail := HO.out.dice.keep (fun x hx => hb6.block x (by omega))
          have hgr6 := grown_low HO.out.grown hb6
          have hRV := hGR.rowsV
          have HF := Lib.hid (odd_end (M := M) (S := S) hlt hRV (by simp) (HW.out.set (by simp; omega)) (hdc.setCell ⟨g, i * 2 + 1, none⟩ (.slice (some ⟨g', 0, none⟩) ((vS S i).length + 1) cap) (show D < g by omega)) (grown_set hgr6 ⟨g, i * 2 + 1, none⟩ (.slice (some ⟨g', 0, none⟩) ((vS S i).length + 1) cap) hgw))
          clear hGR hdc hgr6 hown6 hg6' hbW6 hat6 hb6 hD5 hg5 hg6 hRV
          go_wp2_with fail
          go_ret
          exact HF.out
      · by_cases m3 : m = 3
        · subst m3
          by_cases h00 : 0 < (vS S i).length
          · have hrow := HO.out.rows.row i hiS
            rw [HVI.out.1] at hrow
            obtain ⟨b, rfl, -, -, -⟩ := own_some hrow h00
            have hcb := HVI.out.2.ok.len
            have n1 : (1 : Int) ≤ ((vS S i).length : Int) := by omega
            have n2 : ((vS S i).length : Int) ≤ (cB : Int) := by omega
            have HD1 := Lib.hid (HVI.out.2.drop1 h00)
            have hdl : ((vS S i).drop 1).length = (vS S i).length - 1 := by simp
            have HRV := Lib.hid (HO.out.rows.rowsV.val (k := i) HHS.out hiS HD1.out)
            rw [hdl] at HRV
            have hWd : ((vS S i).drop 1).length ≤ M + 1 := by omega
            have HF := Lib.hid (odd_end (M := M) (S := S) hlt HRV.out (HLS.out _) (HW.out.set hWd) (HO.out.st1 hlt hgw i _).1 (HO.out.st1 hlt hgw i _).2)
            clear hrow hdl hWd HRV HD1
            by_cases hc1 : cB = 1
            · subst hc1
              rw [if_pos rfl] at HF
              have hl1 : (vS S i).length - 1 = 0 := by omega
              rw [hl1] at HF
              clear hl1
              go_wp2_with fail
              go_ret
              exact HF.out
            · rw [if_neg hc1] at HF
              go_wp2_with fail
              go_ret
              exact HF.out
          · have hz : (vS S i).length = 0 := by omega
            rw [hz] at q1
            have HF := Lib.hid (odd_end (M := M) (S := S) hlt HO.out.rows.rowsV (by omega) HW.out.up HO.out.dice HO.out.grown)
            clear hz
            go_wp2_with fail
            go_ret
            exact HF.out
        · by_cases m4 : m = 4
          · subst m4
            by_cases h00 : 0 < (vS S i).length
            · have hrow := HO.out.rows.row i hiS
              rw [HVI.out.1] at hrow
              obtain ⟨b, rfl, hbw, hbl, hfr⟩ := own_some hrow h00
              have fb := hfr 0
              obtain ⟨b2, off2, eb, -, y0⟩ := HVI.out.2.ints 0 h00
              injection eb with eb
              injection eb with e1 e2
              subst e1; subst e2
              rw [Nat.zero_add] at y0
              have hbg : ¬ b = g := by
                rcases HVI.out.2.off b 0 rfl with h | h
                · omega
                · exact h.2
              have hbg2 : ¬ g = b := fun e => hbg e.symm
              have n1 : (0 : Int) < ((vS S i).length : Int) := by omega
              have HLV := Lib.hid (show ∀ y : Int, ((vS S i).set 0 y).length ≤ M + 1 from fun y => by simp; omega)
              obtain ⟨yv, hyv⟩ : ∃ yv, yv = nth (vS S i) 0 := ⟨_, rfl⟩
              rw [← hyv] at y0
              clear hrow hfr hyv
              go_wp2_with fail
              go_region_law (first
                  | (refine step_next _ rfl (.tmp 83) 4 rfl rfl (by exact HO.out.dice) (by omega) (by omega) ?_; intro k w5 hk hD5 hg5; have hg6 : w3.grownBy w5 (some D) := (by first | exact hg5 | exact grown_undrew hg5); replace q1 := (grown_cell hg6 _ _ hgl (by omega)).trans q1; replace y0 := (grown_cell hg6 _ _ hbl (by omega)).trans y0; replace HO := Lib.hid (HO.out.mv hlt hD5 hg6); replace fb := (HO.out.row_free hiS HVI.out.1 h00); have hgl5 := (HO.out.gb h0).1; have hbl5 := (HO.out.row_lt hiS HVI.out.1 h00); have hsz5 := hg6.size; have hcell := lit_list [-1, 1073741824, IntKind.i64.wrap (yv + 1), 0] k (show k < 4 by omega); simp only [List.map] at hcell; have HF := Lib.hid (fun (y : Int) (o : Obj) => (odd_end hlt (HO.out.rows.val_set i hiS HVI.out.1 h00 y).rowsV (HLS.out _) (HW.out.set (HLV.out y)) (HO.out.set hlt ⟨b, 0, none⟩ (.int .i64 y) hbw).1 (HO.out.set hlt ⟨b, 0, none⟩ (.int .i64 y) hbw).2).alloc o))
                  | (refine step_next _ rfl (.tmp 83) 4 rfl rfl (by exact (HO.out.alloc _).dice) (by omega) (by omega) ?_; intro k w5 hk hD5 hg5; have hg6 : (w3.alloc (.cells #[.int .i64 (-1), .int .i64 1073741824, .int .i64 (IntKind.i64.wrap (yv + 1)), .int .i64 0] 3)).grownBy w5 (some D) := (by first | exact hg5 | exact grown_undrew hg5); have hcell := lit_early [-1, 1073741824, IntKind.i64.wrap (yv + 1), 0] hg6 (by have := HO.out.dice.lt; omega) (show k < 4 by omega); replace q1 := (grown_cell hg6 _ _ (by simp; omega) (by omega)).trans ((World.cell?_alloc_past _ _ _ hgl).trans q1); replace y0 := (grown_cell hg6 _ _ (by simp; omega) (by omega)).trans ((World.cell?_alloc_past _ _ _ hbl).trans y0); replace HO := Lib.hid ((HO.out.alloc _).mv hlt hD5 hg6); replace fb := (HO.out.row_free hiS HVI.out.1 h00); have hgl5 := (HO.out.gb h0).1; have hbl5 := (HO.out.row_lt hiS HVI.out.1 h00); have hsz5 := hg6.size; have HF := Lib.hid (fun (y : Int) => odd_end hlt (HO.out.rows.val_set i hiS HVI.out.1 h00 y).rowsV (HLS.out _) (HW.out.set (HLV.out y)) (HO.out.set hlt ⟨b, 0, none⟩ (.int .i64 y) hbw).1 (HO.out.set hlt ⟨b, 0, none⟩ (.int .i64 y) hbw).2)))
              all_goals
                generalize nth [-1, 1073741824, IntKind.i64.wrap (yv + 1), 0] k = y at *
                clear hcell hD5 hg5 hg6
                go_wp2_with fail
                go_ret
                first
                | exact HF.out _ _
                | exact HF.out _
            · have hz : (vS S i).length = 0 := by omega
              rw [hz] at q1
              have HF := Lib.hid (odd_end (M := M) (S := S) hlt HO.out.rows.rowsV (by omega) HW.out.up HO.out.dice HO.out.grown)
              clear hz
              go_wp2_with fail
              go_ret
              exact HF.out
          · by_cases m5 : m = 5
            · subst m5
              go_wp2_with (at_builtin; refine app_hv rfl (.tmp 90) (.tmp 94) rfl (base := w.heap.size) (H := H) (v := .slice (some ⟨g, 0, none⟩) H.length c1) (hS S 0, .slice B0 (vS S 0).length cB0) rfl (HO.out.rows.out.below (below_alloc _ _)) rfl (heap_alloc_new _ _) rfl (by omega) (by simp; omega) ?_; intro v6 w6 hown6 hg6 hb6 hv6)
              have hA := HO.out.alloc (.cells #[.int .i64 (hS S 0), .slice B0 (vS S 0).length cB0] 47)
              have hI0 : IntsP (fun b => w.heap.size ≤ b ∧ (Value.slice (some ⟨g, 0, none⟩) H.length c1).ownBlock ≠ some b) (w3.alloc (.cells #[.int .i64 (hS S 0), .slice B0 (vS S 0).length cB0] 47)) B0 cB0 (vS S 0) :=
                (HV0.out.2.keep (Kept.below (below_alloc _ _))).mono (fun b _ hb => ⟨hb.1, fun e => hb.2 (Option.some.inj (show some g = some b from e)).symm⟩)
              have hM5 := RowsV.more HHS.out hA.rows.toV (hS S 0) (vS S 0) hI0 hown6 hg6 hv6
              have hd6 : DiceAt w6 D R.tail.tail := hA.dice.keep (fun x hx => hb6.block x (by omega))
              have HF := Lib.hid (odd_end (M := M) (S := S) hlt hM5 (by simp) (HW.out.app (HW.out 0 (by omega))) hd6 (grown_low hA.grown hb6))
              clear hA hI0 hM5 hd6 hown6 hg6 hb6 hv6
              go_wp2_with fail
              go_ret
              exact HF.out
            · have e1 : ¬ (m : Int) = 1 := by omega
              have e2 : ¬ (m : Int) = 2 := by omega
              have e3 : ¬ (m : Int) = 3 := by omega
              have e4 : ¬ (m : Int) = 4 := by omega
              have e5 : ¬ (m : Int) = 5 := by omega
              have HF := Lib.hid (odd_end (M := M) (S := S) hlt HO.out.rows.rowsV (by omega) HW.out.up HO.out.dice HO.out.grown)
              go_wp2_with fail
              go_ret
              exact HF.out
end Go.Proofs.YtkjpnhhkebbmdaaDoor
