/-
  Shares: the document's Deal.
  Shares: the verifier's Dealt.
  Shares: the comparison of equal lists; sums of two lists.
  Explain: which shares fit known ones and give a secret (the plain law).
  Explain: the rows that the program's and the document's way give are the same (the plain law).
  append(s, make([]int, m)...): zeros onto a row of the own.
  Conditions: those that each theorem names.
-/
import Derived.Test.YtkjpnhhkebbmdaaDoorM6
import Derived.StillTailTactics
set_option linter.unusedVariables false
set_option linter.unusedSimpArgs false
namespace Go.Proofs.YtkjpnhhkebbmdaaDoor
open Go.RowKit

attribute [local go_sem high] sliced_low
theorem elems_nat (p : Nat) (A : Option Addr) (L : List Nat) (c : Nat) (w : World) (hA : NatsAt w A L) (hl : L.length ≤ 1048576) (hL : ∀ x ∈ L, x < p) (hv : primeV p = true) :
    Calls Tryd.prog 47 #[.int .i64 p, .slice A L.length c] w (Ret (.bool true) w) := by
  have := elems_ref A (ofN L) c p w hA.ints (by rw [len_ofN]; omega)
  unfold elemsI at this
  rw [hv, Bool.and_true, show inside p (ofN L) = true from nat_inside hL, len_ofN] at this
  exact this
/-- The values that holder k + 1 gets. -/
def rowN (p n : Nat) (SN RN : List Nat) (x : Nat) : List Nat := (List.range SN.length).map fun i => evN p (polN SN RN (n - 1) i) x
theorem rowN_len (p n : Nat) (SN RN : List Nat) (x : Nat) : (rowN p n SN RN x).length = SN.length := by simp [rowN]
theorem rowN_take {p n x i : Nat} {SN RN : List Nat} (h : i < SN.length) : (rowN p n SN RN x).take (i + 1) = (rowN p n SN RN x).take i ++ [evN p (polN SN RN (n - 1) i) x] := by
  rw [List.take_succ_eq_append_getElem (by rw [rowN_len]; exact h)]; simp [rowN]
theorem deal_take {p n h k : Nat} {SN RN : List Nat} (hk : k < h) : (dealN p n h SN RN).take (k + 1) = (dealN p n h SN RN).take k ++ [(k + 1, rowN p n SN RN (k + 1))] := by
  have hk' : k < (dealN p n h SN RN).length := by rw [deal_len]; exact hk
  rw [List.take_succ_eq_append_getElem hk', getD_at hk']
  unfold dealN
  rw [(dealtT_at hk).1, (dealtT_at hk).2]; rfl
theorem take_len {L : List Nat} {n i : Nat} (h : L.length = n) (hi : i ≤ n) : (L.take i).length = i := by rw [List.length_take]; omega

theorem enter_refEval (args : Array Value) (w : World) : (callFunc 48 args).run Tryd.prog w = .ok (.enter 48 args) w :=
  Go.MuLone.run_callFunc_enter Tryd.func48 (by kernel_rfl) rfl args w
theorem step_refEval {ops : Array Oper} {o : Oper} {a : Act} {K : Act → World → Prop} {Q : Exit → Act → World → Prop} {E : Prop} {p y x : Nat} {F : Option Addr} {cf m : Nat} (W : World) (hgd : o.guard = none) (s1 s2 s3 : Operand) (ts : Array TypeId)
    (ho : o.op = .call { callee := .value (.func 48), args := #[s1, s2, s3], argTypes := ts }) (h1 : a.eval s1 = .int .i64 (p : Int)) (h2 : a.eval s2 = .slice F m cf) (h3 : a.eval s3 = .int .i64 (x : Int))
    (hc : Calls Tryd.prog 48 #[.int .i64 (p : Int), .slice F m cf, .int .i64 (x : Int)] W (RetB (.int .i64 (y : Int)) W)) (h : ∀ w', Below W.heap.size W w' → K (a.put o.dst (.int .i64 (y : Int))) w') :
    if Region.wanted o (yielded ops a.tmps) = true then Oper.wp Tryd.prog o a W K Q else E :=
  step_call W hgd _ _ ts ho enter_refEval _ (by simp [h1, h2, h3]) hc (fun e w' hr => by obtain ⟨rfl, hb⟩ := hr; exact ⟨_, rfl, h w' hb⟩)

set_option maxRecDepth 100000 in
set_option maxHeartbeats 4000000 in
theorem refDeal_k (p n h : Nat) (A B : Option Addr) (ca cb : Nat) (SN RN : List Nat) (w : World) (hq : PrimeN p) (hq2 : p ≤ 1073741824) (hv : primeV p = validI p) (hpl : plB p n h = true) (h1 : 1 ≤ n) (hkk : 2 ≤ n) (hnh : n ≤ h) (hh : h ≤ 16) (hhp : h < p) (hA : NatsAt w A SN) (hR : NatsAt w B RN) (hok : IOK B cb RN.length)
    (hs : ∀ x ∈ SN, x < p) (hr : ∀ x ∈ RN, x < p) (hl : RN.length = SN.length * (n - 1)) (hm : SN.length ≤ 2048) (hm2 : RN.length ≤ 1048576) :
    Calls Tryd.prog 21 #[planV p n h, .slice A SN.length ca, .slice B RN.length cb] w (ShErr (shL (dealN p n h SN RN)) 0 w) := by
  obtain ⟨k0, hk0⟩ : ∃ k0, k0 = n - 1 := ⟨_, rfl⟩
  have hk' : (n : Int) - 1 = (k0 : Int) := by omega
  have HVA := Lib.hid (fun (W : World) => show Calls Tryd.prog 19 #[planV p n h] W (RetB (.bool true) W) from by have := refValid_plan p n h W hv; rw [hpl] at this; exact this)
  have hpv : primeV p = true := plB_pv hpl hv
  have HES := Lib.hid (fun (W : World) (hb : Below w.heap.size w W) => elems_nat p A SN ca W (hA.below hb) (by omega) hs hpv)
  have HER := Lib.hid (fun (W : World) (hb : Below w.heap.size w W) => elems_nat p B RN cb W (hR.below hb) hm2 hr hpv)
  have HRN := Lib.hid (fun (W : World) => refRandom_any p n h SN.length W (by omega) (by omega) (by omega) (by omega))
  have HA := Lib.hid hA
  have HR := Lib.hid hR
  have HOK := Lib.hid hok
  have HSP := Lib.hid hs
  have HRP := Lib.hid hr
  have hle : (RN.length : Int) = SN.length * ((n : Int) - 1) := by rw [hl, hk', ← hk0]; push_cast; rfl
  have t2 : ((RN.length : Int) != (SN.length : Int) * ((n : Int) - 1)) = false := by simp [hle]
  have t1 : decide (2048 < (SN.length : Int)) = false := decide_eq_false (by omega)
  have HLE := Lib.hid (show RN.length = SN.length * k0 by rw [hk0]; exact hl)
  have HK0 := Lib.hid hk0
  have HKK := Lib.hid hkk
  have HKI := Lib.hid hk'
  have b0 : 1 ≤ p := by omega
  have hn7 : n ≤ 16 := by omega
  have hk8 : k0 ≤ 16 := by omega
  clear hA hR hok hs hr hl hle hk0 hkk hk' hv hpl hq hpv
  go_enter Tryd.func21, Tryd.ntmps21
  go_wp2_with fail
  refine ret_below (HVA.out _) ?_
  intro w1 hb1
  have hbw1 := below_trans (below_alloc _ _) hb1
  have HP := Lib.hid ((PlanCell.new (w := w) p n h rfl).below hb1)
  have p0 := HP.out.c0
  have p1 := HP.out.c1
  have p2 := HP.out.c2
  go_wp2_with fail
  refine ret_pure (HES.out _ hbw1) ?_
  go_wp2_with fail
  refine ret_pure (HER.out _ hbw1) ?_
  go_wp2_with fail
  refine ret_below (HRN.out _) ?_
  intro w4 hb4
  have hbw4 := below_trans hbw1 hb4
  have HP4 := Lib.hid (HP.out.below hb4)
  have p04 := HP4.out.c0
  have p14 := HP4.out.c1
  have p24 := HP4.out.c2
  have hpxl := HP4.out.lt
  clear p0 p1 p2 hb1 hb4 HVA HES HER HRN
  have ew : IntKind.i64.wrap ((n : Int) - 1) = (n : Int) - 1 := IntWalk.i64_in _ (by omega)
  go_wp2_with fail
  have HRM := Lib.hid (show ∀ i, i < SN.length → i * k0 + k0 ≤ RN.length from fun i hi => by rw [HLE.out]; exact part_bd hi)
  go_loopw [8, 10] (fun o i wr => ∃ k x : Nat, k ≤ h ∧ x = k + 1 ∧ i = .int .i64 x ∧ RowsV (fun b => w4.heap.size ≤ b) wr w4.heap.size o (shL ((dealN p n h SN RN).take k)) ∧ Below w4.heap.size w4 wr) (fun _ i _ => h + 1 - (intOf i).toNat)
  case atStart => exact ⟨0, 1, Nat.zero_le _, rfl, rfl, RowsV.nil _ _ _, Below.refl _ _⟩
  case round =>
    obtain ⟨k, x, hk, hx, rfl, hR, hbr⟩ := hrel
    obtain ⟨OA, oc, hv, hRd⟩ := hR.read
    have hlk : (shL ((dealN p n h SN RN).take k)).length = k := by rw [shL_len, List.length_take, deal_len]; omega
    rw [hlk] at hv
    subst hv
    have hsz := hbr.size
    have hbwo := below_trans hbw4 hbr
    have hPr := HP4.out.keep (hbr.block w.heap.size hpxl)
    have y0 := hPr.c0
    have y1 := hPr.c1
    have y2 := hPr.c2
    have hpxr := hPr.lt
    have HPr := Lib.hid hPr
    have HR' := Lib.hid hR
    have HLK := Lib.hid hlk
    have HRd := Lib.hid hRd
    have HXK := Lib.hid hx
    clear hR hlk hRd hPr p04 p14 p24
    by_cases hlt : k < h
    · have hxh : x ≤ h := by omega
      have HTK := Lib.hid (deal_take (p := p) (n := n) (SN := SN) (RN := RN) hlt)
      rw [← hx] at HTK
      clear hx
      obtain ⟨wo, rfl⟩ : ∃ wo : World, wo = wr := ⟨_, rfl⟩
      go_wp2_with fail
      refine gen_world fun w5 hw5 => ?_
      have hsc : ShCell w5 wo.heap.size x (.slice none 0 0) := by rw [hw5]; exact ShCell.new _ _ rfl
      have hb5 : Below wo.heap.size wo w5 := by rw [hw5]; exact below_alloc _ _
      have hz5 := hsc.lt
      have HSC := Lib.hid hsc
      clear hw5 hsc y0 y1 y2
      go_loopw [58] (fun j wr => ∃ (m : Nat) (v : Value), m ≤ SN.length ∧ j = .int .i64 m ∧ ShCell wr wo.heap.size x v ∧ wr.ownsRow w5.heap.size 3 1 v ((rowN p n SN RN x).take m).length (valsN ((rowN p n SN RN x).take m)) ∧ Below wo.heap.size wo wr ∧ w5.heap.size ≤ wr.heap.size) (fun j _ => SN.length - (intOf j).toNat)
      case atStart => exact ⟨0, _, Nat.zero_le _, rfl, HSC.out, World.ownsRow_nil _ _ _ _, hb5, Nat.le_refl _⟩
      case round =>
        obtain ⟨i, v, hi, rfl, hsc, hown, hbq0, hzq⟩ := hrel
        have hbq := below_trans hbwo hbq0
        have hPq := HPr.out.below hbq0
        have y0 := hPq.c0
        have y1 := hPq.c1
        have y2 := hPq.c2
        have s0 := hsc.c0
        have s1 := hsc.c1
        have lS := hsc.lt
        have hpq := hPq.lt
        have hwq := hbq0.size
        have HPq := Lib.hid hPq
        clear hPq
        have hrl : (rowN p n SN RN x).length = SN.length := rowN_len _ _ _ _ _
        by_cases hlt2 : i < SN.length
        · obtain ⟨VA, vc, rfl, -⟩ := own_sl hown rfl
          have HSQ := Lib.hid hsc
          have HOWN := Lib.hid hown
          clear hsc hown
          obtain ⟨bA, oA, rfl, hbA, hcA⟩ := (HA.out.below hbq) i hlt2
          have HTI := Lib.hid (rowN_take (p := p) (n := n) (x := x) (SN := SN) (RN := RN) hlt2)
          have HTIL := Lib.hid (take_len hrl hi)
          clear hrl
          obtain ⟨f, hf⟩ : ∃ f, f = polN SN RN (n - 1) i := ⟨_, rfl⟩
          have hfl : f.length ≤ 17 := by have h1 : f.length ≤ (n - 1) + 1 := by { rw [hf]; exact polN_len }; omega
          have HFP := Lib.hid (show ∀ y ∈ f, y < p by rw [hf]; exact polN_lt b0 HSP.out HRP.out _ i)
          rw [← hf] at HTI
          obtain ⟨T, hT⟩ : ∃ T, T = (RN.drop (i * (n - 1))).take (n - 1) := ⟨_, rfl⟩
          have hXn : nthN SN i < p := nthN_lt b0 HSP.out i
          have hrm := HRM.out i hlt2
          have hTN : NatsAt wr B RN := HR.out.below hbq
          have hTl : T.length = k0 := by rw [hT, List.length_take, List.length_drop, ← HK0.out]; omega
          obtain ⟨lo, hlo⟩ : ∃ lo, lo = i * k0 := ⟨_, rfl⟩
          have e1 : (i : Int) * ((n : Int) - 1) = (lo : Int) := by rw [HKI.out, hlo]; push_cast; rfl
          rw [← hlo] at hrm
          obtain ⟨bB, oB, rfl, hbB, -⟩ := hTN lo (by have := HKK.out; have := HK0.out; omega)
          have hne : ¬ cb = lo := by have := HOK.out.len; have := HKK.out; have := HK0.out; omega
          obtain ⟨hi', hh'⟩ : ∃ x, x = lo + k0 := ⟨_, rfl⟩
          have e2 : ((i : Int) + 1) * ((n : Int) - 1) = (hi' : Int) := by rw [Int.add_mul, e1, Int.one_mul, HKI.out]; omega
          have b1 : (0 : Int) ≤ (i : Int) * ((n : Int) - 1) := by rw [e1]; omega
          have b2 : (i : Int) * ((n : Int) - 1) ≤ 1048576 := by rw [e1]; omega
          have b3 : (0 : Int) ≤ ((i : Int) + 1) * ((n : Int) - 1) := by rw [e2]; omega
          have b4 : ((i : Int) + 1) * ((n : Int) - 1) ≤ 1048576 := by rw [e2]; omega
          have HTL := Lib.hid (show T.length = hi' - lo by omega)
          have hTn : NatsAt wr (some ⟨bB, oB + lo, none⟩) T := by rw [hT, ← HK0.out, ← hlo]; exact (hTN.dropAt lo).take k0
          have HTN := Lib.hid hTn
          have hcap := HOK.out.len
          have c1 : (lo : Int) ≤ (hi' : Int) := by omega
          have c2 : (hi' : Int) ≤ (cb : Int) := by omega
          have c3 : (lo : Int) ≤ (cb : Int) := by omega
          have c4 : (0 : Int) ≤ (lo : Int) := by omega
          have c5 : T.length ≤ 1048576 := by omega
          have HPOL : Hid ([nthN SN i] ++ T = f) := by rw [hf, hT]; rfl
          clear hlo hTN hTl hf hT hTn hh' 
          go_wp2_with (at_builtin; refine app_sl rfl (.tmp 64) (.tmp 73) rfl (base := wr.heap.size) (v := .slice (some ⟨wr.heap.size, 0, none⟩) 1 1) (S := [nthN SN i]) T (some ⟨bB, oB + lo, none⟩) (cb - lo) rfl ((lit1_nats wr (nthN SN i)).own (Nat.le_refl _) (by unfold maxLen; simp)) (by rw [HTL.out]; rfl) (HTN.out.alloc _) (fun e => by cases e) (.inr (fun a e => by injection e with e; subst e; rfl)) (by simp; omega) (by simp) ?_; intro v6 w6 hown6 hb6; rw [HPOL.out] at hown6; obtain ⟨Fa, fc, rfl, hFN, hFS, hFb⟩ := own_sl hown6 rfl; have hb6' : Below wr.heap.size wr w6 := (below_of_alloc hb6 (Nat.le_refl _)); have HFN := Lib.hid hFN; clear hFN hFb hown6)
          have hz6 := hb6'.size
          have HPq6 := Lib.hid (HPq.out.below hb6')
          have HSQ6 := Lib.hid (HSQ.out.below hb6')
          have u0 := HPq6.out.c0
          have u1 := HSQ6.out.c1
          have u2 := HSQ6.out.c0
          have u3 := HSQ6.out.frozen 1
          have lS6 := HSQ6.out.lt
          have lP6 := HPq6.out.lt
          have HOWN6 := Lib.hid (own_below HOWN.out hb6')
          have HEV := Lib.hid (fun (W : World) (hb : Below w6.heap.size w6 W) => show Calls Tryd.prog 48 #[.int .i64 (p : Int), .slice Fa f.length fc, .int .i64 (x : Int)] W (RetB (.int .i64 (evN p f x : Nat)) W) from (refEval_any p x Fa f fc W b0 (by omega) (by omega) HFP.out (HFN.out.below hb) (by omega)).mono (by rintro e w1 ⟨rfl, rfl⟩; exact ⟨rfl, Below.refl _ _⟩))
          generalize evN p f x = y at *
          generalize hMM : (rowN p n SN RN x).take i = M at *
          have hml : M.length ≤ 2048 := by have := HTIL.out; omega
          have HMM := Lib.hid hMM
          clear y0 y1 y2 s0 s1 HOWN hMM
          go_wp2_with fail
          go_region_law (first
            | (refine step_refEval _ rfl (.tmp 78) (.tmp 79) (.tmp 80) _ rfl rfl rfl rfl (HEV.out _ (by (repeat (first | exact bl_refl _ | apply bl_drew | apply bl_alloc)))) ?_; intro w7 hb7; have hb7' : Below w6.heap.size w6 w7 := (below_undrew1 hb7); have l7 := Nat.lt_of_lt_of_le lS6 hb7'.size; have m0 := (hb7'.cell (p := ⟨w.heap.size, 0, none⟩) lP6).trans u0; have m1 := (hb7'.cell (p := ⟨wo.heap.size, 1, none⟩) lS6).trans u1; have m2 := (hb7'.frozen (p := ⟨wo.heap.size, 1, none⟩) lS6).trans u3)
            | (refine step_app_row _ rfl (.tmp 76) (.tmp 82) rfl w7 w5.heap.size (.slice VA M.length vc) M y rfl rfl ⟨rfl, rfl, rfl, rfl⟩ (own_below HOWN6.out hb7') (by omega) (by have := hb7'.size; omega) ?_; intro g' cap w8 hown8 hg8 hbW8 hat8 hb8; have n1 := (hb8.cell (p := ⟨wo.heap.size, 1, none⟩) hz5).trans m1; have n2 := (hb8.frozen (p := ⟨wo.heap.size, 1, none⟩) hz5).trans m2))
          all_goals
            have hc8 : ShCell w8 wo.heap.size x (.slice VA M.length vc) := (hb8.block wo.heap.size hz5).trans (HSQ6.out.below hb7')
            have hcz := hc8.set1 (.slice (some ⟨g', 0, none⟩) (M.length + 1) cap)
            have hoz := own_other hown8 ⟨wo.heap.size, 1, none⟩ (.slice (some ⟨g', 0, none⟩) (M.length + 1) cap) (fun b e => by have := (hown8.lt b e).1; dsimp only; omega)
            have hbz := (below_trans (below_trans hbq0 hb6') hb7').trans (hb8.mono (show wo.heap.size ≤ w5.heap.size by omega))
            have hzz := hbz.setCell (p := ⟨wo.heap.size, 1, none⟩) (Nat.le_refl _) (.slice (some ⟨g', 0, none⟩) (M.length + 1) cap)
            have hs8 := hb8.size
            have hs7 := hb7'.size
            have hz9 : w5.heap.size ≤ (w8.setCell ⟨wo.heap.size, 1, none⟩ (.slice (some ⟨g', 0, none⟩) (M.length + 1) cap)).heap.size := by simp [World.setCell]; omega
            have HZ := Lib.hid (And.intro hcz (And.intro hoz (And.intro hzz hz9)))
            clear hc8 hcz hoz hbz hzz hz9 hown8 n1 n2
            go_wp2_with fail
            go_roundw
            case rel => exact ⟨i + 1, _, by omega, by go_num, HZ.out.1, by rw [HTI.out, List.length_append]; exact HZ.out.2.1, HZ.out.2.2.1, HZ.out.2.2.2⟩
            case measure => simp [intOf]; omega
        · obtain rfl : i = SN.length := by omega
          rw [List.take_of_length_le (by rw [hrl]; exact Nat.le_refl _)] at hown
          clear hrl
          obtain ⟨VA, vc, rfl, hVN, hVS, hVb⟩ := own_sl hown rfl
          have HSQ := Lib.hid hsc
          clear hsc
          have hN9 : ShNew wo wr wo.heap.size x VA vc (rowN p n SN RN x) := ⟨HSQ.out, hVN, hVS, fun b off e => by have := hVb b off e; omega, Nat.le_refl _, hbq0⟩
          generalize rowN p n SN RN x = L at *
          have HN9 := Lib.hid hN9
          have hz9 := hN9.below.size
          obtain ⟨W, hW⟩ : ∃ W, W = wr.alloc (.cells #[.int .i64 (x : Int), .slice VA L.length vc] 47) := ⟨_, rfl⟩
          have hbW : Below wo.heap.size wo W := by rw [hW]; exact bl_alloc _ hN9.below
          have hWz : wr.heap.size ≤ W.heap.size := by rw [hW]; exact (below_alloc _ _).size
          obtain ⟨H, e1, e2, e3⟩ := (HR'.out.below hbW).ex
          have HE3 := Lib.hid (And.intro e1 (And.intro e2 e3))
          have hHl : H.length ≤ 16 := by rw [e2, HLK.out]; omega
          clear e2 e3 hN9 hVN hVS hVb hown
          subst hW
          go_wp2_with (at_builtin; refine app_hv rfl (.tmp 86) (.tmp 88) rfl (base := w4.heap.size) (H := H) (v := .slice OA k oc) ((x : Int), .slice VA L.length vc) rfl e1 rfl (heap_alloc_new _ _) rfl (by omega) (by omega) ?_; intro v4 w8 hown4 hg4 hb4 hv4)
          have hpl8 := (hbr.trans ((hbW.mono hsz).trans hb4))
          have HB4 := Lib.hid hpl8
          have HR4 := Lib.hid (RowsV.put HR'.out HN9.out hsz rfl HE3.out hown4 hg4 hv4 HTK.out)
          clear hown4 hg4 hv4 e1 hpl8
          go_roundw
          case rel => exact ⟨x, x + 1, hxh, rfl, by go_num, HR4.out, HB4.out⟩
          case measure => simp [intOf]; omega
    · obtain rfl : k = h := by omega
      have hX := HRd.out
      rw [List.take_of_length_le (by rw [deal_len]; exact Nat.le_refl _)] at hX
      have hz4 := hbw4.size
      have HX := Lib.hid (hX.mono (Q := fun b => w.heap.size ≤ b) (fun b _ hb => by omega))
      clear hX
      go_wp2_with fail
      go_ret2
      exact ⟨OA, oc, by { have e := (shL_len (dealN p n k SN RN)).trans (deal_len p n k SN RN); rw [e]; first | done | rfl }, HX.out, hbwo⟩

set_option maxRecDepth 100000 in
set_option maxHeartbeats 4000000 in
theorem refDeal_z (p n h : Nat) (A B : Option Addr) (ca cb : Nat) (SN RN : List Nat) (w : World) (hq : PrimeN p) (hq2 : p ≤ 1073741824) (hv : primeV p = validI p) (hpl : plB p n h = true) (h1 : 1 ≤ n) (hkk : n = 1) (hnh : n ≤ h) (hh : h ≤ 16) (hhp : h < p) (hA : NatsAt w A SN) (hR : NatsAt w B RN) (hok : IOK B cb RN.length)
    (hs : ∀ x ∈ SN, x < p) (hr : ∀ x ∈ RN, x < p) (hl : RN.length = SN.length * (n - 1)) (hm : SN.length ≤ 2048) (hm2 : RN.length ≤ 1048576) :
    Calls Tryd.prog 21 #[planV p n h, .slice A SN.length ca, .slice B RN.length cb] w (ShErr (shL (dealN p n h SN RN)) 0 w) := by
  obtain ⟨k0, hk0⟩ : ∃ k0, k0 = n - 1 := ⟨_, rfl⟩
  have hk' : (n : Int) - 1 = (k0 : Int) := by omega
  have HVA := Lib.hid (fun (W : World) => show Calls Tryd.prog 19 #[planV p n h] W (RetB (.bool true) W) from by have := refValid_plan p n h W hv; rw [hpl] at this; exact this)
  have hpv : primeV p = true := plB_pv hpl hv
  have HES := Lib.hid (fun (W : World) (hb : Below w.heap.size w W) => elems_nat p A SN ca W (hA.below hb) (by omega) hs hpv)
  have HER := Lib.hid (fun (W : World) (hb : Below w.heap.size w W) => elems_nat p B RN cb W (hR.below hb) hm2 hr hpv)
  have HRN := Lib.hid (fun (W : World) => refRandom_any p n h SN.length W (by omega) (by omega) (by omega) (by omega))
  have HA := Lib.hid hA
  have HR := Lib.hid hR
  have HOK := Lib.hid hok
  have HSP := Lib.hid hs
  have HRP := Lib.hid hr
  have hle : (RN.length : Int) = SN.length * ((n : Int) - 1) := by rw [hl, hk', ← hk0]; push_cast; rfl
  have t2 : ((RN.length : Int) != (SN.length : Int) * ((n : Int) - 1)) = false := by simp [hle]
  have t1 : decide (2048 < (SN.length : Int)) = false := decide_eq_false (by omega)
  have HLE := Lib.hid (show RN.length = SN.length * k0 by rw [hk0]; exact hl)
  have HK0 := Lib.hid hk0
  have HKK := Lib.hid hkk
  have HKI := Lib.hid hk'
  have b0 : 1 ≤ p := by omega
  have hn7 : n ≤ 16 := by omega
  have hk8 : k0 ≤ 16 := by omega
  clear hA hR hok hs hr hl hle hk0 hkk hk' hv hpl hq hpv
  go_enter Tryd.func21, Tryd.ntmps21
  go_wp2_with fail
  refine ret_below (HVA.out _) ?_
  intro w1 hb1
  have hbw1 := below_trans (below_alloc _ _) hb1
  have HP := Lib.hid ((PlanCell.new (w := w) p n h rfl).below hb1)
  have p0 := HP.out.c0
  have p1 := HP.out.c1
  have p2 := HP.out.c2
  go_wp2_with fail
  refine ret_pure (HES.out _ hbw1) ?_
  go_wp2_with fail
  refine ret_pure (HER.out _ hbw1) ?_
  go_wp2_with fail
  refine ret_below (HRN.out _) ?_
  intro w4 hb4
  have hbw4 := below_trans hbw1 hb4
  have HP4 := Lib.hid (HP.out.below hb4)
  have p04 := HP4.out.c0
  have p14 := HP4.out.c1
  have p24 := HP4.out.c2
  have hpxl := HP4.out.lt
  clear p0 p1 p2 hb1 hb4 HVA HES HER HRN
  have ew : IntKind.i64.wrap ((n : Int) - 1) = (n : Int) - 1 := IntWalk.i64_in _ (by omega)
  go_wp2_with fail
  have HRM := Lib.hid (show ∀ i, i < SN.length → i * k0 + k0 ≤ RN.length from fun i hi => by rw [HLE.out]; exact part_bd hi)
  go_loopw [8, 10] (fun o i wr => ∃ k x : Nat, k ≤ h ∧ x = k + 1 ∧ i = .int .i64 x ∧ RowsV (fun b => w4.heap.size ≤ b) wr w4.heap.size o (shL ((dealN p n h SN RN).take k)) ∧ Below w4.heap.size w4 wr) (fun _ i _ => h + 1 - (intOf i).toNat)
  case atStart => exact ⟨0, 1, Nat.zero_le _, rfl, rfl, RowsV.nil _ _ _, Below.refl _ _⟩
  case round =>
    obtain ⟨k, x, hk, hx, rfl, hR, hbr⟩ := hrel
    obtain ⟨OA, oc, hv, hRd⟩ := hR.read
    have hlk : (shL ((dealN p n h SN RN).take k)).length = k := by rw [shL_len, List.length_take, deal_len]; omega
    rw [hlk] at hv
    subst hv
    have hsz := hbr.size
    have hbwo := below_trans hbw4 hbr
    have hPr := HP4.out.keep (hbr.block w.heap.size hpxl)
    have y0 := hPr.c0
    have y1 := hPr.c1
    have y2 := hPr.c2
    have hpxr := hPr.lt
    have HPr := Lib.hid hPr
    have HR' := Lib.hid hR
    have HLK := Lib.hid hlk
    have HRd := Lib.hid hRd
    have HXK := Lib.hid hx
    clear hR hlk hRd hPr p04 p14 p24
    by_cases hlt : k < h
    · have hxh : x ≤ h := by omega
      have HTK := Lib.hid (deal_take (p := p) (n := n) (SN := SN) (RN := RN) hlt)
      rw [← hx] at HTK
      clear hx
      obtain ⟨wo, rfl⟩ : ∃ wo : World, wo = wr := ⟨_, rfl⟩
      go_wp2_with fail
      refine gen_world fun w5 hw5 => ?_
      have hsc : ShCell w5 wo.heap.size x (.slice none 0 0) := by rw [hw5]; exact ShCell.new _ _ rfl
      have hb5 : Below wo.heap.size wo w5 := by rw [hw5]; exact below_alloc _ _
      have hz5 := hsc.lt
      have HSC := Lib.hid hsc
      clear hw5 hsc y0 y1 y2
      go_loopw [58] (fun j wr => ∃ (m : Nat) (v : Value), m ≤ SN.length ∧ j = .int .i64 m ∧ ShCell wr wo.heap.size x v ∧ wr.ownsRow w5.heap.size 3 1 v ((rowN p n SN RN x).take m).length (valsN ((rowN p n SN RN x).take m)) ∧ Below wo.heap.size wo wr ∧ w5.heap.size ≤ wr.heap.size) (fun j _ => SN.length - (intOf j).toNat)
      case atStart => exact ⟨0, _, Nat.zero_le _, rfl, HSC.out, World.ownsRow_nil _ _ _ _, hb5, Nat.le_refl _⟩
      case round =>
        obtain ⟨i, v, hi, rfl, hsc, hown, hbq0, hzq⟩ := hrel
        have hbq := below_trans hbwo hbq0
        have hPq := HPr.out.below hbq0
        have y0 := hPq.c0
        have y1 := hPq.c1
        have y2 := hPq.c2
        have s0 := hsc.c0
        have s1 := hsc.c1
        have lS := hsc.lt
        have hpq := hPq.lt
        have hwq := hbq0.size
        have HPq := Lib.hid hPq
        clear hPq
        have hrl : (rowN p n SN RN x).length = SN.length := rowN_len _ _ _ _ _
        by_cases hlt2 : i < SN.length
        · obtain ⟨VA, vc, rfl, -⟩ := own_sl hown rfl
          have HSQ := Lib.hid hsc
          have HOWN := Lib.hid hown
          clear hsc hown
          obtain ⟨bA, oA, rfl, hbA, hcA⟩ := (HA.out.below hbq) i hlt2
          have HTI := Lib.hid (rowN_take (p := p) (n := n) (x := x) (SN := SN) (RN := RN) hlt2)
          have HTIL := Lib.hid (take_len hrl hi)
          clear hrl
          obtain ⟨f, hf⟩ : ∃ f, f = polN SN RN (n - 1) i := ⟨_, rfl⟩
          have hfl : f.length ≤ 17 := by have h1 : f.length ≤ (n - 1) + 1 := by { rw [hf]; exact polN_len }; omega
          have HFP := Lib.hid (show ∀ y ∈ f, y < p by rw [hf]; exact polN_lt b0 HSP.out HRP.out _ i)
          rw [← hf] at HTI
          obtain ⟨T, hT⟩ : ∃ T, T = (RN.drop (i * (n - 1))).take (n - 1) := ⟨_, rfl⟩
          have hXn : nthN SN i < p := nthN_lt b0 HSP.out i
          have hrm := HRM.out i hlt2
          have ez : (n : Int) - 1 = 0 := by have := HKK.out; omega
          have e1 : (i : Int) * ((n : Int) - 1) = 0 := by rw [ez, Int.mul_zero]
          have e2 : ((i : Int) + 1) * ((n : Int) - 1) = 0 := by rw [ez, Int.mul_zero]
          clear ez
          have hTl : T.length = 0 := by rw [hT, List.length_take]; have := HKK.out; have := HK0.out; omega
          have hT0 : T = [] := List.eq_nil_of_length_eq_zero (by omega)
          have HCB := Lib.hid HOK.out.nil
          subst hT0
          have HPOL := Lib.hid (show [nthN SN i] ++ [] = f by { rw [hf]; unfold polN; rw [← hT] })
          clear hTl hT hf
          go_wp2_with (at_builtin; refine app_sl rfl (.tmp 64) (.tmp 73) rfl (base := wr.heap.size) (v := .slice (some ⟨wr.heap.size, 0, none⟩) 1 1) (S := [nthN SN i]) [] B cb rfl ((lit1_nats wr (nthN SN i)).own (Nat.le_refl _) (by unfold maxLen; simp)) rfl (NatsAt.nil _ _) (fun e => ⟨rfl, HCB.out e⟩) (.inl rfl) (by simp) (by simp) ?_; intro v6 w6 hown6 hb6; rw [HPOL.out] at hown6; obtain ⟨Fa, fc, rfl, hFN, hFS, hFb⟩ := own_sl hown6 rfl; have hb6' : Below wr.heap.size wr w6 := (below_of_alloc hb6 (Nat.le_refl _)); have HFN := Lib.hid hFN; clear hFN hFb hown6)
          have hz6 := hb6'.size
          have HPq6 := Lib.hid (HPq.out.below hb6')
          have HSQ6 := Lib.hid (HSQ.out.below hb6')
          have u0 := HPq6.out.c0
          have u1 := HSQ6.out.c1
          have u2 := HSQ6.out.c0
          have u3 := HSQ6.out.frozen 1
          have lS6 := HSQ6.out.lt
          have lP6 := HPq6.out.lt
          have HOWN6 := Lib.hid (own_below HOWN.out hb6')
          have HEV := Lib.hid (fun (W : World) (hb : Below w6.heap.size w6 W) => show Calls Tryd.prog 48 #[.int .i64 (p : Int), .slice Fa f.length fc, .int .i64 (x : Int)] W (RetB (.int .i64 (evN p f x : Nat)) W) from (refEval_any p x Fa f fc W b0 (by omega) (by omega) HFP.out (HFN.out.below hb) (by omega)).mono (by rintro e w1 ⟨rfl, rfl⟩; exact ⟨rfl, Below.refl _ _⟩))
          generalize evN p f x = y at *
          generalize hMM : (rowN p n SN RN x).take i = M at *
          have hml : M.length ≤ 2048 := by have := HTIL.out; omega
          have HMM := Lib.hid hMM
          clear y0 y1 y2 s0 s1 HOWN hMM
          go_wp2_with fail
          go_region_law (first
            | (refine step_refEval _ rfl (.tmp 78) (.tmp 79) (.tmp 80) _ rfl rfl rfl rfl (HEV.out _ (by (repeat (first | exact bl_refl _ | apply bl_drew | apply bl_alloc)))) ?_; intro w7 hb7; have hb7' : Below w6.heap.size w6 w7 := (below_undrew1 hb7); have l7 := Nat.lt_of_lt_of_le lS6 hb7'.size; have m0 := (hb7'.cell (p := ⟨w.heap.size, 0, none⟩) lP6).trans u0; have m1 := (hb7'.cell (p := ⟨wo.heap.size, 1, none⟩) lS6).trans u1; have m2 := (hb7'.frozen (p := ⟨wo.heap.size, 1, none⟩) lS6).trans u3)
            | (refine step_app_row _ rfl (.tmp 76) (.tmp 82) rfl w7 w5.heap.size (.slice VA M.length vc) M y rfl rfl ⟨rfl, rfl, rfl, rfl⟩ (own_below HOWN6.out hb7') (by omega) (by have := hb7'.size; omega) ?_; intro g' cap w8 hown8 hg8 hbW8 hat8 hb8; have n1 := (hb8.cell (p := ⟨wo.heap.size, 1, none⟩) hz5).trans m1; have n2 := (hb8.frozen (p := ⟨wo.heap.size, 1, none⟩) hz5).trans m2))
          all_goals
            have hc8 : ShCell w8 wo.heap.size x (.slice VA M.length vc) := (hb8.block wo.heap.size hz5).trans (HSQ6.out.below hb7')
            have hcz := hc8.set1 (.slice (some ⟨g', 0, none⟩) (M.length + 1) cap)
            have hoz := own_other hown8 ⟨wo.heap.size, 1, none⟩ (.slice (some ⟨g', 0, none⟩) (M.length + 1) cap) (fun b e => by have := (hown8.lt b e).1; dsimp only; omega)
            have hbz := (below_trans (below_trans hbq0 hb6') hb7').trans (hb8.mono (show wo.heap.size ≤ w5.heap.size by omega))
            have hzz := hbz.setCell (p := ⟨wo.heap.size, 1, none⟩) (Nat.le_refl _) (.slice (some ⟨g', 0, none⟩) (M.length + 1) cap)
            have hs8 := hb8.size
            have hs7 := hb7'.size
            have hz9 : w5.heap.size ≤ (w8.setCell ⟨wo.heap.size, 1, none⟩ (.slice (some ⟨g', 0, none⟩) (M.length + 1) cap)).heap.size := by simp [World.setCell]; omega
            have HZ := Lib.hid (And.intro hcz (And.intro hoz (And.intro hzz hz9)))
            clear hc8 hcz hoz hbz hzz hz9 hown8 n1 n2
            go_wp2_with fail
            go_roundw
            case rel => exact ⟨i + 1, _, by omega, by go_num, HZ.out.1, by rw [HTI.out, List.length_append]; exact HZ.out.2.1, HZ.out.2.2.1, HZ.out.2.2.2⟩
            case measure => simp [intOf]; omega
        · obtain rfl : i = SN.length := by omega
          rw [List.take_of_length_le (by rw [hrl]; exact Nat.le_refl _)] at hown
          clear hrl
          obtain ⟨VA, vc, rfl, hVN, hVS, hVb⟩ := own_sl hown rfl
          have HSQ := Lib.hid hsc
          clear hsc
          have hN9 : ShNew wo wr wo.heap.size x VA vc (rowN p n SN RN x) := ⟨HSQ.out, hVN, hVS, fun b off e => by have := hVb b off e; omega, Nat.le_refl _, hbq0⟩
          generalize rowN p n SN RN x = L at *
          have HN9 := Lib.hid hN9
          have hz9 := hN9.below.size
          obtain ⟨W, hW⟩ : ∃ W, W = wr.alloc (.cells #[.int .i64 (x : Int), .slice VA L.length vc] 47) := ⟨_, rfl⟩
          have hbW : Below wo.heap.size wo W := by rw [hW]; exact bl_alloc _ hN9.below
          have hWz : wr.heap.size ≤ W.heap.size := by rw [hW]; exact (below_alloc _ _).size
          obtain ⟨H, e1, e2, e3⟩ := (HR'.out.below hbW).ex
          have HE3 := Lib.hid (And.intro e1 (And.intro e2 e3))
          have hHl : H.length ≤ 16 := by rw [e2, HLK.out]; omega
          clear e2 e3 hN9 hVN hVS hVb hown
          subst hW
          go_wp2_with (at_builtin; refine app_hv rfl (.tmp 86) (.tmp 88) rfl (base := w4.heap.size) (H := H) (v := .slice OA k oc) ((x : Int), .slice VA L.length vc) rfl e1 rfl (heap_alloc_new _ _) rfl (by omega) (by omega) ?_; intro v4 w8 hown4 hg4 hb4 hv4)
          have hpl8 := (hbr.trans ((hbW.mono hsz).trans hb4))
          have HB4 := Lib.hid hpl8
          have HR4 := Lib.hid (RowsV.put HR'.out HN9.out hsz rfl HE3.out hown4 hg4 hv4 HTK.out)
          clear hown4 hg4 hv4 e1 hpl8
          go_roundw
          case rel => exact ⟨x, x + 1, hxh, rfl, by go_num, HR4.out, HB4.out⟩
          case measure => simp [intOf]; omega
    · obtain rfl : k = h := by omega
      have hX := HRd.out
      rw [List.take_of_length_le (by rw [deal_len]; exact Nat.le_refl _)] at hX
      have hz4 := hbw4.size
      have HX := Lib.hid (hX.mono (Q := fun b => w.heap.size ≤ b) (fun b _ hb => by omega))
      clear hX
      go_wp2_with fail
      go_ret2
      exact ⟨OA, oc, by { have e := (shL_len (dealN p n k SN RN)).trans (deal_len p n k SN RN); rw [e]; first | done | rfl }, HX.out, hbwo⟩
end Go.Proofs.YtkjpnhhkebbmdaaDoor
namespace Go.Proofs.YtkjpnhhkebbmdaaDoor
open Go.RowKit

theorem refDeal_made {p n h : Nat} {A B : Option Addr} {ca cb k j : Nat} {sec ran : List Nat} {w : World} (P : PlanN p n h) (hA : NatsAt w A sec) (hR : NatsAt w B ran) (hok : SlOK B cb ran)
    (hm : sec.length ≤ 2048) (hs : ∀ x ∈ sec, x < p) (hr : ∀ x ∈ ran, x < p) (hl : ran.length = sec.length * (n - 1)) (hl2 : ran.length ≤ 1048576) (hk : k = sec.length) (hj : j = ran.length) :
    Calls Tryd.prog 21 #[planV p n h, .slice A k ca, .slice B j cb] w (DealR (dealN p n h sec ran) h w) := by
  subst hk hj
  have key : Calls Tryd.prog 21 #[planV p n h, .slice A sec.length ca, .slice B ran.length cb] w (ShErr (shL (dealN p n h sec ran)) 0 w) := by
    rcases Nat.lt_or_ge n 2 with h1 | h1
    · exact refDeal_z p n h A B ca cb sec ran w P.pr P.p2 P.pv P.pl P.n1 (by have := P.n1; omega) P.nh (by have := P.h7; omega) P.hp hA hR hok.iok hs hr hl hm hl2
    · exact refDeal_k p n h A B ca cb sec ran w P.pr P.p2 P.pv P.pl P.n1 h1 P.nh (by have := P.h7; omega) P.hp hA hR hok.iok hs hr hl hm hl2
  refine key.mono ?_
  rintro e w' ⟨A', c', rfl, h1, h2⟩
  exact ⟨A', c', by rw [shL_len, deal_len], h1, h2⟩
theorem refRandom_nat (p n h q rl : Nat) (w : World) (hrl : rl = q * (n - 1)) (hn : 1 ≤ n) (hn2 : n ≤ 1000) (hq : q ≤ 1048576) :
    Calls Tryd.prog 24 #[planV p n h, .int .i64 (q : Int)] w (RetB (.int .i64 (rl : Int)) w) := by
  have := refRandom_any p n h q w (by omega) (by omega) (by omega) (by omega)
  rw [show (q : Int) * ((n : Int) - 1) = ((rl : Nat) : Int) from by rw [hrl, show ((n : Int) - 1) = ((n - 1 : Nat) : Int) by omega]; push_cast; rfl] at this
  exact this
/-- What a dealt secret is. -/
structure DealtN (p n h most : Nat) (sec ran : List Nat) : Prop where
  lo : 1 ≤ sec.length
  hi : sec.length ≤ most
  sp : ∀ x ∈ sec, x < p
  rp : ∀ x ∈ ran, x < p
  ln : ran.length = sec.length * (n - 1)
def DealtP (D p n h most : Nat) (w : World) (e : Ending) (w' : World) : Prop :=
  ∃ (A : Option Addr) (c : Nat) (sec : List Nat) (A' : Option Addr) (c' : Nat) (ran : List Nat) (R' : List Int), e = .returned (.tuple #[.slice A sec.length c, .slice A' h c']) ∧ DealtN p n h most sec ran ∧ Held w' D A c sec ∧ ShP (· ≠ D) w' A' c' (shL (dealN p n h sec ran)) ∧ DiceAt w' D R' ∧ w.grownBy w' (some D)

set_option maxRecDepth 100000 in
set_option maxHeartbeats 4000000 in
theorem dealt_any (D : Nat) (R : List Int) (p n h most : Nat) (w : World) (hd : DiceAt w D R) (P : PlanN p n h) (hm : 1 ≤ most) (hm2 : most ≤ 10) :
    Calls Tryd.prog 31 #[.pointer (some ⟨D, 0, none⟩), planV p n h, .int .i64 (most : Int)] w (DealtP D p n h most w) := by
  have HPN := Lib.hid P
  have h1 := P.p1
  have hp2 : p ≤ 2147483648 := by have := P.p2; omega
  have hn1 := P.n1
  have hn7 : n ≤ 7 := Nat.le_trans P.nh P.h7
  have hDl := hd.lt
  clear P
  go_enter Tryd.func31, Tryd.ntmps31
  go_wp2_with fail
  refine gen_world fun w4 hw4 => ?_
  have hpc : PlanCell w4 w.heap.size p n h := by rw [hw4]; exact PlanCell.new _ _ _ rfl
  have hb4 : Below w.heap.size w w4 := by rw [hw4]; exact below_alloc _ _
  have hd4 := hd.below hb4
  have hg4 : w.grownBy w4 (some D) := grown_of_below hb4
  have hxD : w.heap.size ≠ D := by omega
  have p0 := hpc.c0
  have p1 := hpc.c1
  have p2 := hpc.c2
  have lx := hpc.lt
  have HPC := Lib.hid hpc
  clear hw4 hpc hd
  generalize w.heap.size = px at *
  go_region_held3 (fun w' => w'.cell? ⟨px, 0, none⟩ = some (.int .i64 (p : Int)) ∧ w'.cell? ⟨px, 1, none⟩ = some (.int .i64 (n : Int)) ∧ w'.cell? ⟨px, 2, none⟩ = some (.int .i64 (h : Int))) (first | go_keep)
      (first
        | (go_at_call 17; refine (next_nat D _ most _ (by exact hd4) (by omega) (by omega)).mono ?_; rintro e w5 ⟨m0, rfl, hm0, hD5, hg5⟩; have hg5' : w4.grownBy w5 (some D) := (grown_undrew hg5); have hgw5 := grown_trans hg4 hg5'; have HP5 := Lib.hid (HPC.out.mv hg5' hxD); have q0 := HP5.out.c0; have q1 := HP5.out.c1; have q2 := HP5.out.c2; have ew : IntKind.i64.wrap (1 + (m0:Int)) = 1 + (m0:Int) := (IntWalk.i64_in _ (by omega)))
        | (go_at_call 16; refine (elements_at D _ p (1 + m0) _ _ (by omega) hD5 h1 hp2 (by omega)).mono ?_; intro e w6 he; obtain ⟨SA, sc, sec, R6, rfl, hsl, hsp, hS, hD6, hg6⟩ := elems_held hD5.lt he; have HSL := Lib.hid hsl; clear hsl; have hgw6 := grown_trans hgw5 hg6; have HP6 := Lib.hid (HP5.out.mv hg6 hxD); have r0 := HP6.out.c0; have r1 := HP6.out.c1; have r2 := HP6.out.c2))
  have HSEC := Lib.hid hS
  have HSP := Lib.hid hsp
  have hsl1 : sec.length ≤ most := by have := HSL.out; omega
  have hsl2 : 1 ≤ sec.length := by have := HSL.out; omega
  have lx6 := HP6.out.lt
  have hlD6 := hD6.lt
  clear he hS hsp hg6 hD5 hg5 hg5' q0 q1 q2 p0 p1 p2 HP5 HPC HSL hm0 ew hgw5 hg4 hb4 hd4
  go_wp2_with fail
  obtain ⟨rl, hrl⟩ : ∃ rl, rl = sec.length * (n - 1) := ⟨_, rfl⟩
  have hrl2 : rl ≤ 1048576 := by rw [hrl]; have := Nat.mul_le_mul hsl1 (show n - 1 ≤ 7 by omega); omega
  have HRN := Lib.hid (fun (W : World) => refRandom_nat p n h sec.length rl W hrl hn1 (by omega) (by omega))
  have HRL := Lib.hid hrl
  clear hrl
  go_region_held3 (fun w' => w'.cell? ⟨px, 0, none⟩ = some (.int .i64 (p : Int)) ∧ w'.cell? ⟨px, 1, none⟩ = some (.int .i64 (n : Int)) ∧ w'.cell? ⟨px, 2, none⟩ = some (.int .i64 (h : Int))) (first | go_keep)
      (first
        | (go_at_call 24; refine ret_below (HRN.out _) ?_; intro w7 hb7; have hb7' : Below w6.heap.size w6 w7 := (below_undrew1 hb7); have hD7 := hD6.below hb7'; have hgw7 := grown_trans hgw6 (grown_of_below hb7' : w6.grownBy w7 (some D)); have HP7 := Lib.hid (HP6.out.below hb7'); have q0 := HP7.out.c0; have q1 := HP7.out.c1; have q2 := HP7.out.c2)
        | (go_at_call 16; refine (elements_any D _ p rl _ hD7 h1 hp2 hrl2).mono ?_; intro e w8 he; obtain ⟨RA, rc, ran, R8, rfl, hrnl, hrp, hR, hD8, hg8⟩ := elems_held hD7.lt he; have HRNL := Lib.hid hrnl; clear hrnl; have hgw8 := grown_trans hgw7 hg8; have HP8 := Lib.hid (HP7.out.mv hg8 hxD); have s0 := HP8.out.c0; have s1 := HP8.out.c1; have s2 := HP8.out.c2; have HSEC8 := Lib.hid ((HSEC.out.below hb7').mv hg8))
        | (go_at_call 21; refine (refDeal_made HPN.out HSEC8.out.nats hR.nats hR.ok (by omega) HSP.out hrp (by exact HRNL.out.trans HRL.out) (by have := HRNL.out; omega) rfl rfl).mono ?_; rintro e w9 ⟨NA, nc, rfl, hN, hb9⟩; have hD9 := hD8.below hb9; have hgw9 := grown_trans hgw8 (grown_of_below hb9 : w8.grownBy w9 (some D)); have HP9 := Lib.hid (HP8.out.below hb9); have t0 := HP9.out.c0; have t1 := HP9.out.c1; have t2 := HP9.out.c2))
  have HX := Lib.hid (show DealtP D p n h most w (.returned (.tuple #[.slice SA sec.length sc, .slice NA h nc])) w9 from ⟨SA, sc, sec, NA, nc, ran, _, rfl, ⟨hsl2, hsl1, HSP.out, hrp, HRNL.out.trans HRL.out⟩, HSEC8.out.below hb9, hN.away hD8.lt, hD9, hgw9⟩)
  clear he hrp hR hD8 hg8 hD7 hD6 HP8 HP7 HP6 HSEC8 HSEC q0 q1 q2 s0 s1 s2 r0 r1 r2 hb9 hb7 hb7' HRN hN hD9 hgw9 hgw8 hgw7 hgw6
  go_wp2_with fail
  go_ret2
  exact HX.out
end Go.Proofs.YtkjpnhhkebbmdaaDoor
namespace Go.Proofs.YtkjpnhhkebbmdaaDoor
open Go.RowKit

set_option maxRecDepth 100000 in
set_option maxHeartbeats 4000000 in
theorem same_sh {P P' : Nat → Prop} (A A' : Option Addr) (S : List Shr) (c c' k k' : Nat) (w : World) (hA : ShP P w A c S) (hA' : ShP P' w A' c' S) (hsh : Short S) (hl : S.length ≤ 1048576) (hk : k = S.length) (hk' : k' = S.length) :
    Calls Tryd.prog 22 #[.slice A k c, .slice A' k' c'] w (RetB (.bool true) w) := by
  subst hk
  have hkk : k' = S.length := hk'
  subst hkk
  have HA := Lib.hid hA
  have HA' := Lib.hid hA'
  have HSH := Lib.hid hsh
  have t0 : ((S.length : Int) != (S.length : Int)) = false := by simp
  clear hA hA' hsh hk'
  go_enter Tryd.func22, Tryd.ntmps22
  go_wp2_with fail
  go_loopw [14] (fun i wr => ∃ k : Nat, k ≤ S.length ∧ i = .int .i64 k ∧ Below w.heap.size w wr) (fun i _ => S.length - (intOf i).toNat)
  case atStart => exact ⟨0, Nat.zero_le _, rfl, Below.refl _ _⟩
  case round =>
    obtain ⟨k, hk, rfl, hbr⟩ := hrel
    by_cases hlt : k < S.length
    · obtain ⟨b, off, B, c1, rfl, hb, -, x0, x1, x2⟩ := (HA.out.below hbr).at_ k hlt
      obtain ⟨b', off', B', c1', rfl, hb', -, y0, y1, y2⟩ := (HA'.out.below hbr).at_ k hlt
      have hvl := HSH.out k hlt
      have i1 : (0 : Int) ≤ (k : Int) := by omega
      have i2 : (k : Int) < (S.length : Int) := by omega
      generalize vS S k = L at *
      generalize hS S k = x at *
      have HX := Lib.hid x2
      have HY := Lib.hid y2
      have t1 : (x != x) = false := by simp
      clear x2 y2
      go_wp2_with fail
      refine gen_world fun w1 hw1 => ?_
      have hb1 : Below wr.heap.size wr w1 := by rw [hw1]; exact below_alloc _ _
      have hsc : ShCell w1 wr.heap.size x (.slice B L.length c1) := by rw [hw1]; exact ShCell.new _ _ rfl
      have s0 := hsc.c0
      have s1 := hsc.c1
      have z0 := (hb1.cell (p := ⟨b', off' + k * 2, none⟩) hb').trans y0
      have z1 := (hb1.cell (p := ⟨b', off' + k * 2 + 1, none⟩) hb').trans y1
      have HX1 := Lib.hid ((HX.out.keep (Kept.below hb1)).ints)
      have HY1 := Lib.hid ((HY.out.keep (Kept.below hb1)).ints)
      have hbw := hbr.trans (hb1.mono hbr.size)
      clear hw1 hsc x0 x1 y0 y1
      go_quiet ((go_at_call 28; exact Calls.quiet_of_same (same_refl B B' L c1 c1' _ HX1.out HY1.out (by omega))))
      go_wp2_with fail
      go_roundw
      case rel => exact ⟨k + 1, by omega, by go_num, below_drewN hbw _⟩
      case measure => simp [intOf]; omega
    · go_wp2_with fail
      go_ret
      exact RetB.bool rfl hbr

/-! ### Sums of two lists in order -/
theorem fmul_one {p x : Nat} (h : x < p) : fmul p 1 x = x := by unfold fmul; rw [Nat.one_mul, Nat.mod_eq_of_lt h]
theorem lin_sumV {p : Nat} (hp : 1 ≤ p) {L M : List Nat} (h : L.length = M.length) : linN p L M 1 = sumV p L M 1 := by
  refine extN (by rw [linN_len, sumV_len h, h]; simp) fun i hi => ?_
  rw [linN_len] at hi
  rw [linN_nth hi, sumV_nth hp h (by omega)]
def InOrd (N : List ShN) : Prop := ∀ k, k < N.length → hN N k = k + 1
theorem deal_ord (p n h : Nat) (sec ran : List Nat) : InOrd (dealN p n h sec ran) := fun k hk => by
  rw [deal_len] at hk
  unfold dealN
  rw [(dealtT_at hk).1]
/-- Each share of N and the one of M at the same place. -/
def plusT (p : Nat) (N M : List ShN) : List ShN := (List.range N.length).map fun k => (hN N k, linN p (vN N k) (vN M k) 1)
theorem plusT_len (p : Nat) (N M : List ShN) : (plusT p N M).length = N.length := by simp [plusT]
theorem plusT_at {p k : Nat} {N M : List ShN} (h : k < N.length) : hN (plusT p N M) k = hN N k ∧ vN (plusT p N M) k = linN p (vN N k) (vN M k) 1 := by
  simp [plusT, hN, vN, List.getD_eq_getElem?_getD, h]
theorem plusT_ord {p : Nat} {N M : List ShN} (h : InOrd N) : InOrd (plusT p N M) := fun k hk => by
  rw [plusT_len] at hk
  rw [(plusT_at hk).1]; exact h k hk
/-- What is known of shares of a list that all holders have, in order. -/
structure Full (p n h : Nat) (sec : List Nat) (N : List ShN) : Prop where
  made : Made p n h sec N
  ord : InOrd N
  len : N.length = h
theorem Full.deal {p n h : Nat} {sec ran : List Nat} (P : PlanN p n h) (hs : ∀ x ∈ sec, x < p) (hr : ∀ x ∈ ran, x < p) : Full p n h sec (dealN p n h sec ran) :=
  ⟨deal_Made P hs hr, deal_ord _ _ _ _ _, deal_len _ _ _ _ _⟩
theorem Made.good {p n h : Nat} {sec : List Nat} {N : List ShN} (H : Made p n h sec N) (hp : 1 ≤ p) (hm : sec.length ≤ 2048) : GoodN p h N := by
  obtain ⟨F, h1, h2, h3⟩ := H.ex
  exact h1.good hp hm
theorem Made.vlen {p n h : Nat} {sec : List Nat} {N : List ShN} (H : Made p n h sec N) {k : Nat} (hk : k < N.length) : (vN N k).length = sec.length := by
  obtain ⟨F, h1, h2, h3⟩ := H.ex
  rw [(h1.at_ hk).2.2]; simp
theorem plus_add {p : Nat} {N M : List ShN} (hp : 1 ≤ p) (hl : ∀ k, k < N.length → (vN N k).length = (vN M k).length) : plusT p N M = addT p 1 N M := by
  unfold plusT addT
  refine List.map_congr_left fun k hk => ?_
  have hk := List.mem_range.1 hk
  rw [lin_sumV hp (hl k hk)]
theorem Full.plus {p n h : Nat} {a b : List Nat} {N M : List ShN} (P : PlanN p n h) (H : Full p n h a N) (K : Full p n h b M) (hab : a.length = b.length) : Full p n h (linN p a b 1) (plusT p N M) := by
  have hl : M.length = N.length := K.len.trans H.len.symm
  have e : plusT p N M = addT p 1 N M := plus_add P.p1 (fun k hk => by rw [H.made.vlen hk, K.made.vlen (by omega), hab])
  refine ⟨by rw [e]; exact H.made.add P.p1 K.made hab hl (fun k hk => by rw [H.ord k hk, K.ord k (by omega)]), plusT_ord H.ord, by rw [plusT_len, H.len]⟩
theorem lin_zero {p : Nat} {a : List Nat} (h : ∀ x ∈ a, x < p) : linN p a (List.replicate a.length 0) 1 = a := by
  refine extN (by rw [linN_len]; simp) fun i hi => ?_
  rw [linN_len] at hi
  rw [linN_nth hi]
  have hi' : i < a.length := by simpa using hi
  have : nthN (List.replicate a.length 0) i = 0 := by simp [nthN, List.getD_eq_getElem?_getD, hi']
  rw [this]
  unfold fadd fmul
  rw [Nat.mul_zero, Nat.zero_mod, Nat.add_zero, Nat.mod_eq_of_lt (h _ (nthN_mem hi'))]
end Go.Proofs.YtkjpnhhkebbmdaaDoor
namespace Go.Proofs.YtkjpnhhkebbmdaaDoor
open Go.RowKit

theorem nodup_le : ∀ {A B : List Nat}, A.Nodup → (∀ x ∈ A, x ∈ B) → A.length ≤ B.length
  | [], B, _, _ => Nat.zero_le _
  | a :: A, B, hn, hs => by
    have ha : a ∈ B := hs a (by simp)
    have h1 := (List.nodup_cons.1 hn)
    have ih := nodup_le (A := A) (B := B.erase a) h1.2 (fun x hx => (List.mem_erase_of_ne (fun e => h1.1 (by rw [← e]; exact hx))).2 (hs x (by simp [hx])))
    rw [List.length_erase_of_mem ha] at ih
    have := List.length_pos_of_mem ha
    simp; omega

/-- The holders among 1 .. k that are not known. -/
def fillN (hs : List Nat) : Nat → List Nat
  | 0 => []
  | k + 1 => if (k + 1) ∈ hs then fillN hs k else fillN hs k ++ [k + 1]
theorem fill_held {hs : List Nat} {k : Nat} (h : (k + 1) ∈ hs) : fillN hs (k + 1) = fillN hs k := if_pos h
theorem fill_new {hs : List Nat} {k : Nat} (h : ¬ (k + 1) ∈ hs) : fillN hs (k + 1) = fillN hs k ++ [k + 1] := if_neg h
theorem fill_mem {hs : List Nat} {x : Nat} : ∀ {k : Nat}, x ∈ fillN hs k → 1 ≤ x ∧ x ≤ k ∧ x ∉ hs
  | 0, h => by simp [fillN] at h
  | k + 1, h => by
    by_cases hk : (k + 1) ∈ hs
    · rw [fill_held hk] at h
      have := fill_mem h
      exact ⟨this.1, by omega, this.2.2⟩
    · rw [fill_new hk] at h
      rcases List.mem_append.1 h with h | h
      · have := fill_mem h
        exact ⟨this.1, by omega, this.2.2⟩
      · simp at h; subst h; exact ⟨by omega, by omega, hk⟩
theorem fill_nodup (hs : List Nat) : ∀ k, (fillN hs k).Nodup
  | 0 => by simp [fillN]
  | k + 1 => by
    by_cases hk : (k + 1) ∈ hs
    · rw [fill_held hk]; exact fill_nodup hs k
    · rw [fill_new hk]
      refine List.nodup_append.2 ⟨fill_nodup hs k, by simp, fun a ha b hb => ?_⟩
      simp at hb; subst hb
      have := fill_mem ha
      omega
theorem fill_all (hs : List Nat) : ∀ k x, 1 ≤ x → x ≤ k → x ∉ hs → x ∈ fillN hs k
  | 0, x, h1, h2, _ => by omega
  | k + 1, x, h1, h2, h3 => by
    by_cases hx : x = k + 1
    · subst hx; rw [fill_new h3]; simp
    · have := fill_all hs k x h1 (by omega) h3
      by_cases hk : (k + 1) ∈ hs
      · rw [fill_held hk]; exact this
      · rw [fill_new hk]; exact List.mem_append_left _ this
theorem fill_many (hs : List Nat) (k : Nat) : k ≤ (fillN hs k).length + hs.length := by
  have h := nodup_le (A := (List.range k).map (· + 1)) (B := fillN hs k ++ hs) (List.Pairwise.map _ (fun a b h => by omega) (List.nodup_range (n := k))) (fun x hx => by
    obtain ⟨y, hy, rfl⟩ := List.mem_map.1 hx
    have := List.mem_range.1 hy
    by_cases h : (y + 1) ∈ hs
    · exact List.mem_append_right _ h
    · exact List.mem_append_left _ (fill_all hs k _ (by omega) (by omega) h))
  simpa using h

/-- The shares of all holders on the polynomials through given points. -/
def exF (p : Nat) (X : List Nat) (Y : Nat → List Nat) (e : Nat) : List Nat := (nwN p X (Y e) X.length).1
def exN (p h m : Nat) (X : List Nat) (Y : Nat → List Nat) : List ShN := (List.range h).map fun j => (j + 1, (List.range m).map fun e => evN p (exF p X Y e) (j + 1))
theorem exN_len (p h m : Nat) (X : List Nat) (Y : Nat → List Nat) : (exN p h m X Y).length = h := by simp [exN]
theorem exN_at {p h m : Nat} {X : List Nat} {Y : Nat → List Nat} {j : Nat} (hj : j < h) : hN (exN p h m X Y) j = j + 1 ∧ vN (exN p h m X Y) j = (List.range m).map fun e => evN p (exF p X Y e) (j + 1) := by
  simp [exN, hN, vN, List.getD_eq_getElem?_getD, hj]
theorem exF_at {p : Nat} (hp : PrimeN p) {X : List Nat} (hx : ∀ y ∈ X, y < p) (hn : X.Nodup) {Y : Nat → List Nat} {e : Nat} (hy : ∀ y ∈ Y e, y < p) {j : Nat} (hj : j < X.length) : evN p (exF p X Y e) (nthN X j) = nthN (Y e) j := by
  have hp1 : 1 ≤ p := by have := hp.1; omega
  refine Cg.nat (p := p) ?_ (evN_lt hp1 _ _) (nthN_lt hp1 hy j)
  exact (cg_ev p _ _).trans (nwN_at hp hx hn hy X.length (Nat.le_refl _) j hj)
theorem ex_full {p n h m : Nat} (P : PlanN p n h) {X : List Nat} (hx : ∀ y ∈ X, y < p) (hn : X.Nodup) (hl : X.length ≤ n) {Y : Nat → List Nat} {sec : List Nat} (hm : sec.length = m) (hy : ∀ e, e < m → ∀ y ∈ Y e, y < p) {i0 : Nat} (h0 : i0 < X.length) (hx0 : nthN X i0 = 0)
    (hy0 : ∀ e, e < m → nthN (Y e) i0 = nthN sec e) : Full p n h sec (exN p h m X Y) := by
  subst hm
  refine ⟨⟨exF p X Y, ⟨fun s hs => ?_, nodup_hsN fun k hk j hj => ?_⟩, fun e he => ?_, ?_⟩, fun k hk => ?_, exN_len _ _ _ _ _⟩
  · obtain ⟨k, hk, rfl⟩ := shl_mem hs
    rw [exN_len] at hk
    rw [(exN_at hk).1, (exN_at hk).2]
    exact ⟨by omega, by omega, rfl⟩
  · rw [exN_len] at hk
    rw [(exN_at hk).1, (exN_at (show j < h by omega)).1]; omega
  · have := (nwN_len p X (Y e) X.length).1
    exact Nat.le_trans this hl
  · refine extN (by simp) fun e he => ?_
    have he : e < sec.length := by simpa using he
    rw [nthN_eq (by simpa using he)]
    simp only [List.getElem_map, List.getElem_range]
    rw [← hy0 e he, ← hx0]
    exact exF_at P.pr hx hn (hy e he) h0
  · rw [exN_len] at hk
    exact (exN_at hk).1
/-- The value between the points is the polynomial's. -/
theorem ex_itV {p : Nat} (hp : PrimeN p) {X : List Nat} (hx : ∀ y ∈ X, y < p) (hn : X.Nodup) (hl : 0 < X.length) {Y : Nat → List Nat} {e : Nat} (hy : ∀ y ∈ Y e, y < p) (hyl : (Y e).length = X.length) (x : Nat) : itE X (Y e) = 0 ∧ itV p X (Y e) x = evN p (exF p X Y e) x := by
  have h0 : itE X (Y e) = 0 := by rw [itE_len hyl.symm, ckE_ok (by omega) hn]
  refine ⟨h0, ?_⟩
  rw [itV_ok h0]
  exact interpN hp hx hn (nwN_len p X (Y e) X.length).1 (fun i hi => (exF_at hp hx hn hy hi).symm) x

/-- The document's points: known holders, 0, and as many others as are needed. -/
def exX (hs : List Nat) (k : Nat) : List Nat := hs ++ [0] ++ fillN hs k
def exY (K : List ShN) (sec : List Nat) (c : Nat) (e : Nat) : List Nat := colN K e ++ [nthN sec e] ++ List.replicate c 0
theorem exX_len (hs : List Nat) (k : Nat) : (exX hs k).length = hs.length + 1 + (fillN hs k).length := by simp [exX]; omega
theorem exY_len (K : List ShN) (sec : List Nat) (c e : Nat) : (exY K sec c e).length = K.length + 1 + c := by simp [exY, colN]; omega
theorem exX_nodup {hs : List Nat} (h : hs.Nodup) (h0 : 0 ∉ hs) (k : Nat) : (exX hs k).Nodup := by
  unfold exX
  refine List.nodup_append.2 ⟨List.nodup_append.2 ⟨h, by simp, fun a ha b hb => ?_⟩, fill_nodup hs k, fun a ha b hb => ?_⟩
  · simp at hb; subst hb; intro e; exact h0 (e ▸ ha)
  · have hb := fill_mem hb
    rcases List.mem_append.1 ha with ha | ha
    · intro e; exact hb.2.2 (e ▸ ha)
    · simp at ha; subst ha; omega
theorem exX_lt {hs : List Nat} {k p : Nat} (h : ∀ x ∈ hs, x < p) (hk : k < p) : ∀ x ∈ exX hs k, x < p := fun x hx => by
  unfold exX at hx
  rcases List.mem_append.1 hx with hx | hx
  · rcases List.mem_append.1 hx with hx | hx
    · exact h x hx
    · simp at hx; subst hx; omega
  · have := fill_mem hx; omega
theorem exY_lt {K : List ShN} {sec : List Nat} {c e p : Nat} (hp : 1 ≤ p) (hK : ∀ k, k < K.length → ∀ x ∈ vN K k, x < p) (hs : ∀ x ∈ sec, x < p) : ∀ y ∈ exY K sec c e, y < p := fun y hy => by
  unfold exY at hy
  rcases List.mem_append.1 hy with hy | hy
  · rcases List.mem_append.1 hy with hy | hy
    · obtain ⟨s, hs, rfl⟩ := List.mem_map.1 hy
      obtain ⟨k, hk, rfl⟩ := shl_mem hs
      exact nthN_lt hp (hK k hk) e
    · simp at hy; subst hy; exact nthN_lt hp hs e
  · rw [List.eq_of_mem_replicate hy]; omega
theorem exX_zero (hs : List Nat) (k : Nat) : nthN (exX hs k) hs.length = 0 := by
  simp [nthN, exX, List.getD_eq_getElem?_getD]
theorem exY_zero (K : List ShN) (sec : List Nat) (c e : Nat) : nthN (exY K sec c e) K.length = nthN sec e := by
  simp [nthN, exY, colN, List.getD_eq_getElem?_getD]
/-- What the document's Explain says of good known shares. -/
def explN (p h : Nat) (K : List ShN) (sec : List Nat) (k : Nat) : List ShN := exN p h sec.length (exX (hsN K) k) (exY K sec (fillN (hsN K) k).length)
theorem hs_rng {p h : Nat} {K : List ShN} (hg : GoodN p h K) : ∀ x ∈ hsN K, 1 ≤ x ∧ x ≤ h := fun x hx => by
  obtain ⟨s, hs, rfl⟩ := List.mem_map.1 hx
  obtain ⟨k, hk, rfl⟩ := shl_mem hs
  exact ⟨(hg.rng k hk).1, (hg.rng k hk).2.1⟩
theorem expl_full {p n h k : Nat} {K : List ShN} {sec : List Nat} (P : PlanN p n h) (hg : GoodN p h K) (hs : ∀ x ∈ sec, x < p) (hk : k < p) (hl : K.length + 1 + (fillN (hsN K) k).length = n) : Full p n h sec (explN p h K sec k) := by
  have hr := hs_rng hg
  refine ex_full P (i0 := (hsN K).length) (exX_lt (fun x hx => by have := hr x hx; have := P.hp; omega) hk) (exX_nodup hg.nd (fun h0 => by have := hr 0 h0; omega) k) (by rw [exX_len, hsN_len]; omega) rfl (fun e _ => exY_lt P.p1 (fun j hj => (hg.rng j hj).2.2) hs) (by rw [exX_len]; omega) (exX_zero _ _) (fun e _ => by rw [hsN_len]; exact exY_zero _ _ _ _)
theorem expl_it {p n h k : Nat} {K : List ShN} {sec : List Nat} (P : PlanN p n h) (hg : GoodN p h K) (hs : ∀ x ∈ sec, x < p) (hk : k < p) (e x : Nat) :
    itE (exX (hsN K) k) (exY K sec (fillN (hsN K) k).length e) = 0 ∧ itV p (exX (hsN K) k) (exY K sec (fillN (hsN K) k).length e) x = evN p (exF p (exX (hsN K) k) (exY K sec (fillN (hsN K) k).length) e) x := by
  have hr := hs_rng hg
  exact ex_itV P.pr (exX_lt (fun x hx => by have := hr x hx; have := P.hp; omega) hk) (exX_nodup hg.nd (fun h0 => by have := hr 0 h0; omega) k) (by rw [exX_len]; omega) (exY_lt P.p1 (fun j hj => (hg.rng j hj).2.2) hs) (by rw [exX_len, exY_len, hsN_len]) x
end Go.Proofs.YtkjpnhhkebbmdaaDoor
namespace Go.Proofs.YtkjpnhhkebbmdaaDoor
open Go.RowKit

theorem fill_pre (hs : List Nat) (k : Nat) : ∀ d, ∃ T, fillN hs (k + d) = fillN hs k ++ T
  | 0 => ⟨[], by simp⟩
  | d + 1 => by
    obtain ⟨T, hT⟩ := fill_pre hs k d
    by_cases h : (k + d + 1) ∈ hs
    · exact ⟨T, by rw [show k + (d + 1) = k + d + 1 from rfl, fill_held h, hT]⟩
    · exact ⟨T ++ [k + d + 1], by rw [show k + (d + 1) = k + d + 1 from rfl, fill_new h, hT, List.append_assoc]⟩
/-- The first holders that are not known. -/
def fillM (hs : List Nat) (m : Nat) : List Nat := (fillN hs (m + hs.length)).take m
theorem fillM_of {hs : List Nat} {k m : Nat} (h : (fillN hs k).length = m) : fillM hs m = fillN hs k := by
  unfold fillM
  have hm := fill_many hs (m + hs.length)
  rcases Nat.le_total k (m + hs.length) with hk | hk
  · obtain ⟨T, hT⟩ := fill_pre hs k (m + hs.length - k)
    rw [show k + (m + hs.length - k) = m + hs.length by omega] at hT
    rw [hT, List.take_append_of_le_length (by omega), List.take_of_length_le (by omega)]
  · obtain ⟨T, hT⟩ := fill_pre hs (m + hs.length) (k - (m + hs.length))
    rw [show m + hs.length + (k - (m + hs.length)) = k by omega] at hT
    have hl : (fillN hs k).length = (fillN hs (m + hs.length)).length + T.length := by rw [hT, List.length_append]
    have h0 : T = [] := List.eq_nil_of_length_eq_zero (by omega)
    rw [h0, List.append_nil] at hT
    rw [hT, List.take_of_length_le (by omega)]
/-- Rows of polynomials' values. -/
def exT (p h m : Nat) (F : Nat → List Nat) : List ShN := (List.range h).map fun j => (j + 1, (List.range m).map fun e => evN p (F e) (j + 1))
theorem exT_len (p h m : Nat) (F : Nat → List Nat) : (exT p h m F).length = h := by simp [exT]
theorem exT_at {p h m : Nat} {F : Nat → List Nat} {j : Nat} (hj : j < h) : hN (exT p h m F) j = j + 1 ∧ vN (exT p h m F) j = (List.range m).map fun e => evN p (F e) (j + 1) := by
  simp [exT, hN, vN, List.getD_eq_getElem?_getD, hj]
theorem exT_zero (p h : Nat) (F : Nat → List Nat) : exT p h 0 F = emptyT h := by simp [exT, emptyT]
theorem exT_succ (p h m : Nat) (F : Nat → List Nat) : stepT p (F m) (exT p h m F) (exT p h m F).length = exT p h (m + 1) F := by
  refine shl_ext (by rw [stepT_len, exT_len, exT_len]) fun j hj => ?_
  rw [stepT_len, exT_len] at hj
  obtain ⟨e1, e2⟩ := stepT_at (p := p) (f := F m) (T := exT p h m F) (k := (exT p h m F).length) (j := j) (by rw [exT_len]; exact hj)
  rw [if_pos (by rw [exT_len]; exact hj)] at e2
  obtain ⟨e3, e4⟩ := exT_at (p := p) (m := m) (F := F) hj
  obtain ⟨e5, e6⟩ := exT_at (p := p) (m := m + 1) (F := F) hj
  rw [e1, e2, e3, e4, e5, e6, List.range_succ, List.map_append]
  exact ⟨rfl, rfl⟩
theorem exT_ext {p h m : Nat} {F G : Nat → List Nat} (H : ∀ e, e < m → ∀ x, evN p (F e) x = evN p (G e) x) : exT p h m F = exT p h m G := by
  unfold exT
  refine List.map_congr_left fun j _ => ?_
  refine congrArg (Prod.mk (j + 1)) (List.map_congr_left fun e he => H e (List.mem_range.1 he) _)
theorem exN_exT (p h m : Nat) (X : List Nat) (Y : Nat → List Nat) : exN p h m X Y = exT p h m (exF p X Y) := rfl

/-- The program's points: 0, known holders, and as many others as are needed. -/
def xpX (hs : List Nat) (k : Nat) : List Nat := [0] ++ hs ++ fillN hs k
def xpY (K : List ShN) (sec : List Nat) (c : Nat) (e : Nat) : List Nat := [nthN sec e] ++ colN K e ++ List.replicate c 0
theorem xpX_len (hs : List Nat) (k : Nat) : (xpX hs k).length = hs.length + 1 + (fillN hs k).length := by simp [xpX]; omega
theorem xpY_len (K : List ShN) (sec : List Nat) (c e : Nat) : (xpY K sec c e).length = K.length + 1 + c := by simp [xpY, colN]; omega
theorem xpX_nodup {hs : List Nat} (h : hs.Nodup) (h0 : 0 ∉ hs) (k : Nat) : (xpX hs k).Nodup := by
  have := exX_nodup h h0 k
  unfold exX at this
  unfold xpX
  exact (List.Perm.append_right _ (List.perm_append_comm)).nodup_iff.1 this
theorem xpX_lt {hs : List Nat} {k p : Nat} (h : ∀ x ∈ hs, x < p) (hk : k < p) : ∀ x ∈ xpX hs k, x < p := fun x hx => by
  refine exX_lt h hk x ?_
  unfold exX
  unfold xpX at hx
  simp only [List.mem_append] at hx ⊢
  rcases hx with (hx | hx) | hx
  · exact .inl (.inr hx)
  · exact .inl (.inl hx)
  · exact .inr hx
theorem xpY_lt {K : List ShN} {sec : List Nat} {c e p : Nat} (hp : 1 ≤ p) (hK : ∀ k, k < K.length → ∀ x ∈ vN K k, x < p) (hs : ∀ x ∈ sec, x < p) : ∀ y ∈ xpY K sec c e, y < p := fun y hy => by
  refine exY_lt (c := c) (e := e) hp hK hs y ?_
  unfold exY
  unfold xpY at hy
  simp only [List.mem_append] at hy ⊢
  rcases hy with (hy | hy) | hy
  · exact .inl (.inr hy)
  · exact .inl (.inl hy)
  · exact .inr hy
theorem nthN_app {A B : List Nat} (i : Nat) : nthN (A ++ B) i = if i < A.length then nthN A i else nthN B (i - A.length) := by
  by_cases h : i < A.length
  · rw [if_pos h]; simp [nthN, List.getD_eq_getElem?_getD, List.getElem?_append_left h]
  · rw [if_neg h]; simp [nthN, List.getD_eq_getElem?_getD, List.getElem?_append_right (show A.length ≤ i by omega)]
/-- Each point of the document is one of the program's. -/
theorem ex_xp {hs cs F : List Nat} {s : Nat} (hl : cs.length = hs.length) {i : Nat} (hi : i < hs.length + 1 + F.length) :
    ∃ j, j < hs.length + 1 + F.length ∧ nthN ([0] ++ hs ++ F) j = nthN (hs ++ [0] ++ F) i ∧ nthN ([s] ++ cs ++ List.replicate F.length 0) j = nthN (cs ++ [s] ++ List.replicate F.length 0) i := by
  by_cases h1 : i < hs.length
  · refine ⟨i + 1, by omega, ?_, ?_⟩
    · simp only [nthN_app, List.length_append, List.length_cons, List.length_nil]
      rw [if_pos (by omega), if_neg (by omega), if_pos (by omega), if_pos (by omega)]
      congr 1
    · simp only [nthN_app, List.length_append, List.length_cons, List.length_nil]
      rw [if_pos (by omega), if_neg (by omega), if_pos (by omega), if_pos (by omega)]
      congr 1
  · by_cases h2 : i = hs.length
    · subst h2
      refine ⟨0, by omega, ?_, ?_⟩
      · simp only [nthN_app, List.length_append, List.length_cons, List.length_nil]
        rw [if_pos (by omega), if_pos (by omega), if_pos (by omega), if_neg (by omega), Nat.sub_self]
      · simp only [nthN_app, List.length_append, List.length_cons, List.length_nil]
        rw [if_pos (by omega), if_pos (by omega), if_pos (by omega), if_neg (by omega), hl, Nat.sub_self]
    · refine ⟨i, hi, ?_, ?_⟩
      · simp only [nthN_app, List.length_append, List.length_cons, List.length_nil]
        rw [if_neg (by omega), if_neg (by omega)]
        congr 1; omega
      · simp only [nthN_app, List.length_append, List.length_cons, List.length_nil]
        rw [if_neg (by omega), if_neg (by omega)]
        congr 1; omega
theorem xp_rows {p n h k : Nat} {K : List ShN} {sec : List Nat} (P : PlanN p n h) (hg : GoodN p h K) (hs : ∀ x ∈ sec, x < p) (hk : k < p) :
    exT p h sec.length (fun e => thN p (xpX (hsN K) k) (xpY K sec (fillN (hsN K) k).length e)) = explN p h K sec k := by
  have hr := hs_rng hg
  have h0 : 0 ∉ hsN K := fun h0 => by have := hr 0 h0; omega
  have hlt : ∀ x ∈ hsN K, x < p := fun x hx => by have := hr x hx; have := P.hp; omega
  have hKp : ∀ k, k < K.length → ∀ x ∈ vN K k, x < p := fun j hj => (hg.rng j hj).2.2
  unfold explN
  rw [exN_exT]
  refine exT_ext fun e _ x => ?_
  have hX := xpX_lt hlt hk
  have hN := xpX_nodup hg.nd h0 k
  have hY := xpY_lt (c := (fillN (hsN K) k).length) (e := e) P.p1 hKp hs
  have hl : (thN p (xpX (hsN K) k) (xpY K sec (fillN (hsN K) k).length e)).length ≤ (exX (hsN K) k).length := by
    have := thN_len p (xpX (hsN K) k) (xpY K sec (fillN (hsN K) k).length e)
    rw [xpX_len] at this; rw [exX_len]; exact this
  have hi := interpN P.pr (exX_lt hlt hk) (exX_nodup hg.nd h0 k) hl (ys := exY K sec (fillN (hsN K) k).length e) (fun i hi => by
    rw [exX_len] at hi
    obtain ⟨j, hj, e1, e2⟩ := ex_xp (hs := hsN K) (cs := colN K e) (F := fillN (hsN K) k) (s := nthN sec e) (by rw [colN_len, hsN_len]) hi
    have e3 := thN_at P.pr hX hN hY (j := j) (by rw [xpX_len]; exact hj)
    show nthN (colN K e ++ [nthN sec e] ++ List.replicate (fillN (hsN K) k).length 0) i = evN p _ (nthN (hsN K ++ [0] ++ fillN (hsN K) k) i)
    rw [← e1, ← e2]; exact e3.symm) x
  obtain ⟨h1, h2⟩ := expl_it P hg hs hk e x
  rw [itV_ok h1] at h2
  rw [← hi, h2]

/-- What is said of any known shares and any secret. -/
noncomputable def xpE (p n h : Nat) (S : List Shr) (sec : List Int) : Int :=
  if gdB p h S = true ∧ (S.length = 0 ∨ (vS S 0).length = sec.length) then (if inside p sec = true then (if n ≤ S.length ∨ 2048 < sec.length then 3 else 0) else 2) else 1
def xpM (p n h : Nat) (K : List ShN) (sec : List Nat) : List ShN := exN p h sec.length (hsN K ++ [0] ++ fillM (hsN K) (n - 1 - K.length)) (exY K sec (n - 1 - K.length))
theorem xpM_of {p n h k : Nat} {K : List ShN} {sec : List Nat} (hl : K.length + 1 + (fillN (hsN K) k).length = n) : xpM p n h K sec = explN p h K sec k := by
  have h1 : (fillN (hsN K) k).length = n - 1 - K.length := by omega
  unfold xpM explN exX
  rw [fillM_of h1, h1]
noncomputable def xpL (p n h : Nat) (S : List Shr) (sec : List Int) : List ShN := if xpE p n h S sec = 0 then xpM p n h (natL S) (sec.map Int.toNat) else []
theorem xpE_gd {p n h : Nat} {S : List Shr} {sec : List Int} (H : gdB p h S = false) : xpE p n h S sec = 1 := by unfold xpE; rw [if_neg (fun g => by rw [H] at g; cases g.1)]
theorem xpE_len {p n h : Nat} {S : List Shr} {sec : List Int} (H : ¬ (S.length = 0 ∨ (vS S 0).length = sec.length)) : xpE p n h S sec = 1 := by unfold xpE; rw [if_neg (fun g => H g.2)]
theorem xpE_in {p n h : Nat} {S : List Shr} {sec : List Int} (H : gdB p h S = true) (H1 : S.length = 0 ∨ (vS S 0).length = sec.length) (H2 : inside p sec = false) : xpE p n h S sec = 2 := by unfold xpE; rw [if_pos ⟨H, H1⟩, if_neg (fun g => by rw [H2] at g; cases g)]
theorem xpE_few {p n h : Nat} {S : List Shr} {sec : List Int} (H : gdB p h S = true) (H1 : S.length = 0 ∨ (vS S 0).length = sec.length) (H2 : inside p sec = true) (H3 : n ≤ S.length ∨ 2048 < sec.length) : xpE p n h S sec = 3 := by unfold xpE; rw [if_pos ⟨H, H1⟩, if_pos H2, if_pos H3]
theorem xpE_ok {p n h : Nat} {S : List Shr} {sec : List Int} (H : gdB p h S = true) (H1 : S.length = 0 ∨ (vS S 0).length = sec.length) (H2 : inside p sec = true) (H3 : ¬ (n ≤ S.length ∨ 2048 < sec.length)) : xpE p n h S sec = 0 := by unfold xpE; rw [if_pos ⟨H, H1⟩, if_pos H2, if_neg H3]
theorem xpL_no {p n h : Nat} {S : List Shr} {sec : List Int} (H : xpE p n h S sec ≠ 0) : xpL p n h S sec = [] := if_neg H
theorem xpL_ok {p n h : Nat} {S : List Shr} {sec : List Int} (H : xpE p n h S sec = 0) : xpL p n h S sec = xpM p n h (natL S) (sec.map Int.toNat) := if_pos H
theorem xpM_len (p n h : Nat) (K : List ShN) (sec : List Nat) : (xpM p n h K sec).length = h := exN_len _ _ _ _ _
/-- They are shares of the secret, and the known ones are among them. -/
theorem xpM_full {p n h : Nat} {K : List ShN} {sec : List Nat} (P : PlanN p n h) (hg : GoodN p h K) (hs : ∀ x ∈ sec, x < p) (hl : K.length < n) (hKm : K.length = 0 ∨ (vN K 0).length = sec.length) :
    Full p n h sec (xpM p n h K sec) ∧ ∀ k, k < K.length → hN (xpM p n h K sec) (hN K k - 1) = hN K k ∧ vN (xpM p n h K sec) (hN K k - 1) = vN K k := by
  obtain ⟨k, hk, hkl⟩ : ∃ k, k < n ∧ (fillN (hsN K) k).length = n - 1 - K.length := by
    have hst : ∀ k, (fillN (hsN K) (k + 1)).length ≤ (fillN (hsN K) k).length + 1 := fun k => by
      by_cases h : (k + 1) ∈ hsN K
      · rw [fill_held h]; omega
      · rw [fill_new h]; simp
    have hup : ∀ m, m ≤ (fillN (hsN K) (n - 1)).length → ∃ k, k ≤ n - 1 ∧ (fillN (hsN K) k).length = m := by
      have : ∀ j m, m ≤ (fillN (hsN K) j).length → ∃ k, k ≤ j ∧ (fillN (hsN K) k).length = m := by
        intro j
        induction j with
        | zero => intro m hm; exact ⟨0, Nat.le_refl _, by simp [fillN] at hm ⊢; omega⟩
        | succ j ih =>
          intro m hm
          by_cases hmj : m ≤ (fillN (hsN K) j).length
          · obtain ⟨k, h1, h2⟩ := ih m hmj; exact ⟨k, by omega, h2⟩
          · exact ⟨j + 1, Nat.le_refl _, by have := hst j; omega⟩
      exact this (n - 1)
    have hm := fill_many (hsN K) (n - 1)
    rw [hsN_len] at hm
    obtain ⟨k, h1, h2⟩ := hup (n - 1 - K.length) (by omega)
    exact ⟨k, by omega, h2⟩
  have hkp : k < p := by have := P.nh; have := P.hp; omega
  have hkn : K.length + 1 + (fillN (hsN K) k).length = n := by omega
  rw [xpM_of hkn]
  refine ⟨expl_full P hg hs hkp hkn, fun j hj => ?_⟩
  have hr := hg.rng j hj
  have hidx : hN K j - 1 < h := by omega
  obtain ⟨e1, e2⟩ := exN_at (p := p) (m := sec.length) (X := exX (hsN K) k) (Y := exY K sec (fillN (hsN K) k).length) hidx
  unfold explN
  refine ⟨by rw [e1]; omega, ?_⟩
  rw [e2]
  have hjl : (vN K j).length = sec.length := by
    rcases hKm with h0 | h0
    · omega
    · rw [hg.len j hj, h0]
  refine extN (by simp [hjl]) fun e he => ?_
  have he : e < sec.length := by simpa using he
  rw [nthN_eq (by simpa using he)]
  simp only [List.getElem_map, List.getElem_range]
  rw [show hN K j - 1 + 1 = hN K j by omega]
  have hrs := hs_rng hg
  have h0 : 0 ∉ hsN K := fun h0 => by have := hrs 0 h0; omega
  have hlt : ∀ x ∈ hsN K, x < p := fun x hx => by have := hrs x hx; have := P.hp; omega
  have hat := exF_at P.pr (X := exX (hsN K) k) (exX_lt hlt hkp) (exX_nodup hg.nd h0 k) (Y := exY K sec (fillN (hsN K) k).length) (e := e) (exY_lt P.p1 (fun j hj => (hg.rng j hj).2.2) hs) (j := j) (by rw [exX_len, hsN_len]; omega)
  have hx : nthN (exX (hsN K) k) j = hN K j := by
    unfold exX
    rw [nthN_app, if_pos (by rw [List.length_append, hsN_len]; omega), nthN_app, if_pos (by rw [hsN_len]; exact hj), hsN_nth hj]
  have hy : nthN (exY K sec (fillN (hsN K) k).length e) j = nthN (vN K j) e := by
    unfold exY
    rw [nthN_app, if_pos (by rw [List.length_append, colN_len]; omega), nthN_app, if_pos (by rw [colN_len]; exact hj), colN_nth hj]
  rw [hx, hy] at hat
  exact hat
end Go.Proofs.YtkjpnhhkebbmdaaDoor
namespace Go.Proofs.YtkjpnhhkebbmdaaDoor
open Go.RowKit

theorem zeroCells_int (m : Nat) : Builtin.zeroCells (Value.int .i64 0).cells m = (List.replicate m (Value.int .i64 0)).toArray := by
  rw [show (Value.int .i64 0).cells = #[Value.int .i64 0] from rfl]
  apply Array.ext
  · simp [Builtin.zeroCells]
  · intro i h1 h2
    simp [Builtin.zeroCells]
    have : i % 1 = 0 := Nat.mod_one i
    simp [this]
theorem run_app_zero_room (ty : TypeId) {w : World} {g n cap m : Nat} {cur : Array Value} (hg : w.heap[g]? = some (.cells cur 3 (0, 0))) (hroom : n + m ≤ cap) (hfit : n + m ≤ cur.size) (hm : 0 < m) (hm2 : m ≤ 1099511627776) :
    (Builtin.append_ #[22, 3] ty #[.slice (some ⟨g, 0, none⟩) n cap, .int .i64 (m : Int)]).run Tryd.prog w =
      .ok (.slice (some ⟨g, 0, none⟩) (n + m) cap) (w.setRow g (cur.toList.take n ++ List.replicate m (Value.int .i64 0) ++ cur.toList.drop (n + m)).toArray) := by
  obtain ⟨i, hi, hz, hsz, hby⟩ := info_parts info_int
  have hst := run_storeCells_at Tryd.prog g (n * i.size) 3 (List.replicate m (Value.int .i64 0)) 0 cur w hg (by rw [hsz]; simpa using hfit) (fun u hu => by rw [List.eq_of_mem_replicate hu]; rfl)
  simp only [Nat.add_zero] at hst
  have hw : IntKind.i64.wrap (m : Int) = (m : Int) := IntWalk.i64_in _ (by omega)
  have h1 : ¬ ((m : Int) < 0) := by omega
  have h2 : ¬ (281474976710656 < (m : Int) * i.bytes) := by rw [hby]; omega
  have hn1 : n * i.size = n := by rw [hsz, Nat.mul_one]
  have hr := hst
  rw [hn1] at hr
  simp [Builtin.append_, run_underlying Tryd.underlying22, run_underlying Tryd.underlying3, sizeOf, typeInfo, zeroValue, hi, hz, hroom, hw, h1, h2, Addr.add_lit, zeroCells_int, asInt, asIntOf, hr, hsz, show ¬ m = 0 by omega]
theorem run_app_zero_grow (ty : TypeId) {w : World} {b : Addr} {n cap m : Nat} {olds : List Value} (hlo : olds.length = n) (holds : ∀ j v, olds[j]? = some v → w.cell? (b.add j) = some v) (hgr : cap < n + m) (hm : 0 < m) (hl : n + m ≤ 4294967296) :
    (Builtin.append_ #[22, 3] ty #[.slice (some b) n cap, .int .i64 (m : Int)]).run Tryd.prog w =
      .ok (.slice (some ⟨w.heap.size, 0, none⟩) (n + m) (grownCap w (n + m) cap 3)) (w.drew.alloc (.cells (olds.toArray ++ (List.replicate m (Value.int .i64 0)).toArray ++ Builtin.zeroCells (Value.int .i64 0).cells (grownCap w (n + m) cap 3 - (n + m))) 3)) := by
  obtain ⟨i, hi, hz, hsz, hby⟩ := info_parts info_int
  have hw : IntKind.i64.wrap (m : Int) = (m : Int) := IntWalk.i64_in _ (by omega)
  have h1 : ¬ ((m : Int) < 0) := by omega
  have h2 : ¬ (281474976710656 < (m : Int) * i.bytes) := by rw [hby]; omega
  have hn : ¬ (n + m ≤ cap) := by omega
  have h63' : ¬ (9223372036854775807 < ((n : Int) + (m : Int))) := by omega
  have h48' : ¬ (281474976710656 < Builtin.nextslicecap (n + m) cap * i.bytes) := by
    have := growslice_fits (need := n + m) (old := cap) (bytes := i.bytes) (by omega) (by rw [hby]; omega)
    omega
  have hfo := run_firstCells_some (P := Tryd.prog) w.drew i.size n b n cap olds (by rw [hlo, hsz, Nat.mul_one]) (by simpa using holds)
  rw [hsz] at hfo
  simp [Builtin.append_, run_underlying Tryd.underlying22, run_underlying Tryd.underlying3, sizeOf, typeInfo, zeroValue, hi, hz, hn, hw, h1, h2, h63', h48', Question.forced, asInt, asIntOf, hsz, show ¬ m = 0 by omega, hfo, newRow, grownCap, zeroCells_int]
theorem take_two {α : Type} {X Y Z : List α} {n : Nat} (h : n = X.length + Y.length) : (X ++ Y ++ Z).take n = X ++ Y := by rw [h, ← List.length_append]; exact List.take_left
theorem run_app_zeros (ty : TypeId) {w : World} {base : Nat} {v : Value} {S : List Nat} (m : Nat) (hown : w.ownsRow base 3 1 v S.length (valsN S)) (h0 : 0 < S.length) (hl : S.length + m ≤ 4294967296) (hbase : base ≤ w.heap.size) :
    ∃ v' w', (Builtin.append_ #[22, 3] ty #[v, .int .i64 (m : Int)]).run Tryd.prog w = .ok v' w' ∧ w'.ownsRow base 3 1 v' (S ++ List.replicate m 0).length (valsN (S ++ List.replicate m 0)) ∧ w.grownBy w' v.ownBlock := by
  obtain ⟨i, hi, hz, hsz, hby⟩ := info_parts info_int
  have hxl : (valsN S).length = S.length := by simp [valsN]
  have hval : valsN (S ++ List.replicate m 0) = valsN S ++ List.replicate m (Value.int .i64 0) := by simp [valsN]
  have hlen : (S ++ List.replicate m 0).length = S.length + m := by simp
  rcases Nat.eq_zero_or_pos m with rfl | hm
  · refine ⟨v, w, ?_, by simpa using hown, ⟨rfl, rfl, rfl, Nat.le_refl _, fun _ _ _ => rfl⟩⟩
    rcases hown.2 with ⟨_, h2⟩ | ⟨g, cap, cur, rfl, hbg, hg, hnc, hcm, hcs, htake⟩
    · omega
    · simp [Builtin.append_, run_underlying Tryd.underlying22, run_underlying Tryd.underlying3, sizeOf, typeInfo, zeroValue, hi, hz, hnc, hby, asInt, asIntOf, Addr.add_lit, storeCells, show IntKind.i64.wrap 0 = 0 by decide]
  · rcases hown.2 with ⟨_, h2⟩ | ⟨g, cap, cur, rfl, hbg, hg, hnc, hcm, hcs, htake⟩
    · omega
    · rw [hval, hlen]
      by_cases hroom : S.length + m ≤ cap
      · refine ⟨_, _, run_app_zero_room ty hg hroom (by omega) hm (by omega), ⟨by simp [valsN], .inr ⟨g, cap, _, rfl, hbg, setRow_heap w g cur _ _ _ hg, hroom, hcm, ?_, ?_⟩⟩, ⟨rfl, rfl, rfl, by simp, fun k _ hk => setRow_other w g k _ (fun e => hk (by simp [Value.ownBlock, e]))⟩⟩
        · simp; omega
        · rw [Nat.mul_one] at htake ⊢
          rw [htake]
          exact take_two (by rw [hxl, List.length_replicate])
      · have holds : ∀ j u, (valsN S)[j]? = some u → w.cell? ((⟨g, 0, none⟩ : Addr).add j) = some u := hown.cells (g := g) rfl
        have hge := grownCap_ge w (S.length + m) cap 3
        have hcm2 : grownCap w (S.length + m) cap 3 ≤ maxLen := grownCap_le_maxLen w (S.length + m) cap 3 (by unfold maxLen; omega)
        refine ⟨_, _, run_app_zero_grow ty hxl holds (by omega) hm hl, ⟨by simp [valsN], .inr ⟨w.heap.size, _, _, rfl, hbase, heap_alloc_new w.drew _, hge, hcm2, ?_, ?_⟩⟩, ⟨rfl, rfl, rfl, by simp, fun k hk _ => (by first | exact heap_alloc_old w.drew _ k hk | exact heap_alloc_old w.drew _ hk)⟩⟩
        · simp only [Array.size_append, List.size_toArray, size_zeroCells, hxl, List.length_replicate, show (Value.int .i64 0).cells.size = 1 from rfl]
          omega
        · rw [Nat.mul_one, Array.toList_append, Array.toList_append]
          exact take_two (by rw [List.length_replicate]; show _ = (valsN S).length + m; rw [hxl])
/-- append of m zeros onto a row of the own. -/
theorem app_zeros {ops : Array Oper} {rest : List Oper} {o : Oper} {a : Act} {Q : Exit → Act → World → Prop} (hgd : o.guard = none) (s x : Operand)
    (ho : o.op = .call { callee := .builtin .append, args := #[s, x], argTypes := #[22, 3] })
    {base : Nat} {w : World} {v : Value} {S : List Nat} (m : Nat) (hs : a.eval s = v) (hown : w.ownsRow base 3 1 v S.length (valsN S)) (h0 : 0 < S.length)
    (hx : a.eval x = .int .i64 (m : Int)) (hl : S.length + m ≤ 4294967296) (hbase : base ≤ w.heap.size)
    (h : ∀ v' w', w'.ownsRow base 3 1 v' (S ++ List.replicate m 0).length (valsN (S ++ List.replicate m 0)) → Below base w w' → wpList Tryd.prog ops Q rest (a.put o.dst v') w') :
    wpList Tryd.prog ops Q (o :: rest) a w := by
  refine wpList_plain hgd fun _ hK => ?_
  obtain ⟨v', w', hr, h2, h3⟩ := run_app_zeros o.type m hown h0 hl hbase
  unfold Oper.wp execOp
  simp only [ho, resolve, invoke, builtin, Sem.run_bind, Sem.run_pure, Result.andThen_ok, List.map_toArray, List.map_cons, List.map_nil, hs, hx, hr]
  exact hK _ _ (h v' w' h2 ((Below.refl _ _).grown h3 hbase (fun k hk => (hown.lt k hk).1)))
end Go.Proofs.YtkjpnhhkebbmdaaDoor
