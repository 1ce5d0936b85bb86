/-
  Shares: Deal.
-/
import Derived.Test.YtkjpnhhkebbmdaaDoorShR
namespace Go.Proofs.YtkjpnhhkebbmdaaDoor
open Go.RowKit

theorem plan_nat {p n h : Int} (H : PlanP p n h) (hv : primeV p = validI p) : ∃ q n' h' : Nat, p = (q : Int) ∧ n = (n' : Int) ∧ h = (h' : Int) ∧ PrimeN q ∧ q ≤ 1073741824 ∧ 1 ≤ n' ∧ n' ≤ h' ∧ h' ≤ 16 ∧ h' < q := by
  obtain ⟨q, rfl, hq, hq2⟩ := plan_prime H hv
  obtain ⟨l1, l2, l3, l4, -⟩ := H
  exact ⟨q, n.toNat, h.toNat, rfl, by omega, by omega, hq, hq2, by omega, by omega, by omega, by omega⟩
theorem part_bd {i k m : Nat} (hi : i < m) : i * k + k ≤ m * k := by
  have := Nat.mul_le_mul_right k (show i + 1 ≤ m by omega)
  rw [Nat.add_mul, Nat.one_mul] at this; exact this
theorem NatsAt.dropAt {w : World} {b off : Nat} {L : List Nat} (h : NatsAt w (some ⟨b, off, none⟩) L) (i : Nat) : NatsAt w (some ⟨b, off + i, none⟩) (L.drop i) := fun k hk => by
  rw [List.length_drop] at hk
  obtain ⟨b', off', e, hb, hc⟩ := h (i + k) (by omega)
  injection e with e; injection e with e1 e2; subst e1; subst e2
  refine ⟨b, off + i, rfl, hb, ?_⟩
  rw [show off + i + k = off + (i + k) by omega, hc]
  simp [nthN, List.getD_eq_getElem?_getD]
theorem nats_take {w : World} {A : Option Addr} {L : List Nat} (h : NatsAt w A L) (k : Nat) : NatsAt w A (L.take k) := h.take k
/-- A part of the random numbers, as a slice. -/
theorem part_at {w : World} {B : Option Addr} {c lo k : Nat} {ran : List Nat} (h : NatsAt w B ran) (hok : IOK B c ran.length) (hlo : lo + k ≤ ran.length) :
    ∃ ad, sliced B lo (lo + k) c 1 = .slice ad ((ran.drop lo).take k).length (c - lo) ∧ NatsAt w ad ((ran.drop lo).take k) ∧ (ad = none → ((ran.drop lo).take k).length = 0 ∧ c - lo = 0) ∧ (((ran.drop lo).take k).length = 0 ∨ ∀ a, ad = some a → a.spot = none) := by
  have hlen : ((ran.drop lo).take k).length = k := by rw [List.length_take, List.length_drop]; omega
  rw [hlen]
  have hcl := hok.len
  rcases Nat.eq_zero_or_pos k with h0 | h0
  · subst h0
    unfold sliced
    refine ⟨if c = lo then B else B.map (·.add (lo * 1)), by simp, by rw [show (ran.drop lo).take 0 = [] from rfl]; exact NatsAt.nil _ _, fun e => ⟨rfl, ?_⟩, .inl rfl⟩
    by_cases hc : c = lo
    · omega
    · rw [if_neg hc] at e
      have : B = none := by cases B with
        | none => rfl
        | some a => cases e
      have := hok.nil this; omega
  · have hne : ¬ c = lo := by omega
    obtain ⟨b, off, rfl, hb, hc⟩ := h lo (by omega)
    unfold sliced
    rw [if_neg hne, Nat.mul_one]
    have hadd : (⟨b, off, none⟩ : Addr).add lo = ⟨b, off + lo, none⟩ := by
      unfold Addr.add; split
      · rename_i h; subst h; rfl
      · rfl
    refine ⟨some ⟨b, off + lo, none⟩, ?_, (h.dropAt lo).take k, (fun e => by cases e), .inr (fun a e => by injection e with e; subst e; rfl)⟩
    simp only [Option.map_some, hadd]
    rw [show lo + k - lo = k by omega]
theorem DlrAt.below {w w' : World} {d base : Nat} {p n h : Int} {T : List ShN} (H : DlrAt w d base p n h T) (hb : Below w.heap.size w w') : DlrAt w' d base p n h T := by
  obtain ⟨h1, h2, v, H', h3, h4⟩ := H
  exact ⟨h1, Nat.le_trans h2 hb.size, v, H', (hb.block d (by omega)).trans h3, h4.below hb⟩

theorem deal_go {wr w6 : World} {d base p k h0 : Nat} {n h : Int} {sec ran : List Nat} {m : Nat} (hD : DlrAt wr d base p n h (dealtT p h0 sec ran k m)) (hb : Below wr.heap.size wr w6) {F : Option Addr} {f : List Nat} (hF : NatsAt w6 F f) (hFb : ∀ b off, F = some ⟨b, off, none⟩ → wr.heap.size ≤ b ∧ b < w6.heap.size) (cf : Nat)
    (hp : 1 ≤ p) (hp2 : p ≤ 2147483648) (hf : ∀ x ∈ f, x < p) (hh : h0 < p) (hh0 : h0 ≤ 1000) (hfl : f.length ≤ 1048576) (hm : m ≤ 1048576) :
    Calls Tryd.prog 46 #[.pointer (some ⟨d, 0, none⟩), .slice F f.length cf] w6
      (fun e w' => e = .returned (.tuple #[]) ∧ DlrAt w' d base p n h (stepT p f (dealtT p h0 sec ran k m) (dealtT p h0 sec ran k m).length) ∧ Below base w6 w') := by
  obtain ⟨h1, h2, v, H, h3, h4⟩ := hD
  refine deal_any d base p n h _ F cf f w6 v H h1 (Nat.le_trans h2 hb.size) ((hb.block d (by omega)).trans h3) (h4.below hb) hF (fun bF off e => ⟨fun i hi b e2 => ?_, fun b e2 => ?_⟩) (fun bF off e => (hFb bF off e).2) hp hp2 hf (fun j hj => ?_) hfl (by rw [dealtT_len]; exact hh0) (fun j hj => ?_)
  · have := (hFb bF off e).1
    have := (World.ownsRow.lt (h4.row i hi) b e2).2
    omega
  · have := (hFb bF off e).1
    have := (World.ownsRow.lt h4.out b e2).2
    omega
  · rw [dealtT_len] at hj
    rw [(dealtT_at hj).1]; omega
  · rw [dealtT_len] at hj
    rw [(dealtT_at hj).2, List.length_map, List.length_range]; exact hm

set_option maxRecDepth 100000 in
set_option maxHeartbeats 4000000 in
theorem dealS_any (p n h : Int) (A B : Option Addr) (ca cb : Nat) (sec ran : List Int) (w : World) (hv : primeV p = validI p) (hB : Bases w) (hA : IntsAt w A sec) (hR : IntsAt w B ran) (hok : IOK B cb ran.length) (hl1 : sec.length ≤ 1048576) (hl2 : ran.length ≤ 1048576) :
    Calls Tryd.prog 20 #[planV p n h, .slice A sec.length ca, .slice B ran.length cb] w (ShErr (shL (dlL p n h sec ran)) (dlE p n h sec ran) w) := by
  have hva := valid_plan p n h (w.alloc (.cells #[.int .i64 p, .int .i64 n, .int .i64 h] 24)) (hB.keep (below_alloc _ _))
  have HA := Lib.hid hA
  have HR := Lib.hid hR
  have HOK := Lib.hid hok
  clear hA hR hok hB
  have HES := Lib.hid (fun (W : World) (hb : Below w.heap.size w W) => elements_plan p n h A sec ca W (HA.out.below hb) (by omega))
  have HER := Lib.hid (fun (W : World) (hb : Below w.heap.size w W) => elements_plan p n h B ran cb W (HR.out.below hb) (by omega))
  cases hp : plB p n h with
  | false =>
    have he := dlE_pl (sec := sec) (ran := ran) hp
    rw [dlL_no (by rw [he]; decide), he]
    rw [hp] at hva
    have HV := Lib.hid hva
    clear hva hp he hv
    go_enter Tryd.func20, Tryd.ntmps20
    go_wp2_with fail
    refine ret_below HV.out ?_
    intro w1 hb1
    go_wp2_with fail
    go_ret2
    exact ShErr.nil _ (below_trans (below_alloc _ _) hb1)
  | true =>
    rw [hp] at hva
    have HV := Lib.hid hva
    by_cases hbig : 2048 < sec.length
    · have he := dlE_big (ran := ran) hp hbig
      rw [dlL_no (by rw [he]; decide), he]
      have t1 : decide (2048 < (sec.length : Int)) = true := decide_eq_true (by omega)
      clear hva hp he hv
      go_enter Tryd.func20, Tryd.ntmps20
      go_wp2_with fail
      refine ret_below HV.out ?_
      intro w1 hb1
      have hbw1 := below_trans (below_alloc _ _) hb1
      have HP := Lib.hid ((PlanCell.new (w := w) p n h rfl).below hb1)
      have p0 := HP.out.c0
      have p1 := HP.out.c1
      have p2 := HP.out.c2
      go_wp2_with fail
      go_ret2
      exact ShErr.nil _ hbw1
    · have t1 : decide (2048 < (sec.length : Int)) = false := decide_eq_false (by omega)
      cases hi1 : inside p sec with
      | false =>
        have he := dlE_bad (sec := sec) (ran := ran) hp hbig (fun H => by rw [hi1] at H; cases H.1)
        rw [dlL_no (by rw [he]; decide), he]
        rw [hi1] at HES
        clear hva hp he hv hi1
        go_enter Tryd.func20, Tryd.ntmps20
        go_wp2_with fail
        refine ret_below HV.out ?_
        intro w1 hb1
        have hbw1 := below_trans (below_alloc _ _) hb1
        have HP := Lib.hid ((PlanCell.new (w := w) p n h rfl).below hb1)
        have p0 := HP.out.c0
        have p1 := HP.out.c1
        have p2 := HP.out.c2
        go_wp2_with fail
        refine ret_below (HES.out _ hbw1) ?_
        intro w2 hb2
        go_wp2_with fail
        go_ret2
        exact ShErr.nil _ (below_trans hbw1 hb2)
      | true =>
        rw [hi1] at HES
        cases hi2 : inside p ran with
        | false =>
          have he := dlE_bad (sec := sec) (ran := ran) hp hbig (fun H => by rw [hi2] at H; cases H.2.1)
          rw [dlL_no (by rw [he]; decide), he]
          rw [hi2] at HER
          clear hva hp he hv hi1 hi2
          go_enter Tryd.func20, Tryd.ntmps20
          go_wp2_with fail
          refine ret_below HV.out ?_
          intro w1 hb1
          have hbw1 := below_trans (below_alloc _ _) hb1
          have HP := Lib.hid ((PlanCell.new (w := w) p n h rfl).below hb1)
          have p0 := HP.out.c0
          have p1 := HP.out.c1
          have p2 := HP.out.c2
          go_wp2_with fail
          refine ret_below (HES.out _ hbw1) ?_
          intro w2 hb2
          have hbw2 := below_trans hbw1 hb2
          have HP2 := Lib.hid (HP.out.below hb2)
          have p02 := HP2.out.c0
          have p12 := HP2.out.c1
          have p22 := HP2.out.c2
          go_wp2_with fail
          refine ret_below (HER.out _ hbw2) ?_
          intro w3 hb3
          go_wp2_with fail
          go_ret2
          exact ShErr.nil _ (below_trans hbw2 hb3)
        | true =>
          rw [hi2] at HER
          obtain ⟨q, n', h', rfl, rfl, rfl, hq, hq2, m1, m2, m3, m4⟩ := plan_nat (of_decide_eq_true hp) hv
          have HRN := Lib.hid (fun (W : World) => random_any q n' h' sec.length W (by omega) (by omega) (by omega) (by omega))
          by_cases hle : (ran.length : Int) = sec.length * ((n' : Int) - 1)
          · have he := dlE_ok (sec := sec) (ran := ran) hp hbig ⟨hi1, hi2, hle⟩
            have t2 : ((ran.length : Int) != (sec.length : Int) * ((n' : Int) - 1)) = false := by simp [hle]
            have hdl : dlL q n' h' sec ran = dealN q n' h' (sec.map Int.toNat) (ran.map Int.toNat) := by
              unfold dlL; rw [if_pos he, Int.toNat_natCast, Int.toNat_natCast, Int.toNat_natCast]
            rw [hdl, he]
            obtain ⟨e1, e2⟩ := inside_nat hi1
            obtain ⟨e3, e4⟩ := inside_nat hi2
            have hs1 : (sec.map Int.toNat).length = sec.length := by simp
            have hs2 : (ran.map Int.toNat).length = ran.length := by simp
            have hAn : NatsAt w A (sec.map Int.toNat) := IntsAt.nats (by rw [e1]; exact HA.out)
            have hRn : NatsAt w B (ran.map Int.toNat) := IntsAt.nats (by rw [e3]; exact HR.out)
            have HAN := Lib.hid hAn
            have HRNA := Lib.hid hRn
            have HSP := Lib.hid e2
            have HRP := Lib.hid e4
            have hd0 : dealN q n' h' (sec.map Int.toNat) (ran.map Int.toNat) = dealtT q h' (sec.map Int.toNat) (ran.map Int.toNat) (n' - 1) sec.length := by unfold dealN; rw [hs1]
            have HD0 := Lib.hid hd0
            by_cases hn1 : n' = 1
            · have hsplit : True := trivial
              obtain ⟨k, hk⟩ : ∃ k, k = n' - 1 := ⟨_, rfl⟩
              have hk00 : k = 0 := by omega
              have hk' : (n' : Int) - 1 = 0 := by omega
              have hle' : ran.length = sec.length * k := by
                have h1 := hle
                rw [hk', Int.mul_zero] at h1
                rw [hk00]; omega
              rw [hk', Int.mul_zero] at t2 HRN
              have HK := Lib.hid hk'
              have HK00 := Lib.hid hk00
              have HLE := Lib.hid hle'
              have HOK2 := Lib.hid (show IOK B cb (ran.map Int.toNat).length by rw [hs2]; exact HOK.out)
              have HS1 := Lib.hid hs1
              have HS2 := Lib.hid hs2
              rw [← hk] at HD0
              clear hn1 hva hp he hv hi1 hi2 hle hdl e1 e3 e2 e4 hAn hRn hd0 hs1 hs2 hle' hk hk00
              generalize sec.map Int.toNat = SN at *
              generalize ran.map Int.toNat = RN at *
              have hp' : True := trivial
              go_enter Tryd.func20, Tryd.ntmps20
              go_wp2_with fail
              refine ret_below HV.out ?_
              intro w1 hb1
              have hbw1 := below_trans (below_alloc _ _) hb1
              have HP := Lib.hid ((PlanCell.new (w := w) q n' h' rfl).below hb1)
              have p0 := HP.out.c0
              have p1 := HP.out.c1
              have p2 := HP.out.c2
              go_wp2_with fail
              refine ret_below (HES.out _ hbw1) ?_
              intro w2 hb2
              have hbw2 := below_trans hbw1 hb2
              have HP2 := Lib.hid (HP.out.below hb2)
              have p02 := HP2.out.c0
              have p12 := HP2.out.c1
              have p22 := HP2.out.c2
              go_wp2_with fail
              refine ret_below (HER.out _ hbw2) ?_
              intro w3 hb3
              have hbw3 := below_trans hbw2 hb3
              have HP3 := Lib.hid (HP2.out.below hb3)
              have p03 := HP3.out.c0
              have p13 := HP3.out.c1
              have p23 := HP3.out.c2
              go_wp2_with fail
              refine ret_below (HRN.out _) ?_
              intro w4 hb4
              have hbw4 := below_trans hbw3 hb4
              have HP4 := Lib.hid (HP3.out.below hb4)
              have p04 := HP4.out.c0
              have p14 := HP4.out.c1
              have p24 := HP4.out.c2
              clear p0 p1 p2 p02 p12 p22 p03 p13 p23
              go_wp2_with fail
              refine (newDealer_any q n' h' _ (by omega)).mono ?_
              rintro e w5 ⟨d, base, rfl, hdw, hD, hb5⟩
              have hbw5 := below_trans hbw4 hb5
              have p15 := (HP4.out.below hb5).c1
              have hzw := hbw4.size
              have HD := Lib.hid hD
              have hdb := hD.1
              clear hD p04 p14 p24
              have HRM := Lib.hid (show ∀ i, i < sec.length → i * k + k ≤ ran.length from fun i hi => by rw [HLE.out]; exact part_bd hi)
              have hcap := HOK.out.len
              have HD1 : Hid (DlrAt w5 d base q n' h' (dealtT q h' SN RN k 0)) := by rw [dealtT_zero]; exact HD.out
              go_wp2_with fail
              go_loopw [47] (fun i wr => ∃ m : Nat, m ≤ sec.length ∧ i = .int .i64 m ∧ DlrAt wr d base q n' h' (dealtT q h' SN RN k m) ∧ Below base w5 wr) (fun i _ => sec.length - (intOf i).toNat)
              case atStart => exact ⟨0, Nat.zero_le _, rfl, HD1.out, Below.refl _ _⟩
              case round =>
                obtain ⟨i, hi, rfl, hDr, hbr⟩ := hrel
                have hbwr : Below w.heap.size w wr := hbw5.trans (hbr.mono (by omega))
                have HDr := Lib.hid hDr
                have hzr := hbr.size
                have hDB : base ≤ wr.heap.size := HDr.out.2.1
                clear hDr p15
                by_cases hlt : i < sec.length
                · obtain ⟨bA, oA, rfl, hbA, hcA⟩ := (HAN.out.below hbwr) i (by rw [HS1.out]; exact hlt)
                  have hrm := HRM.out i hlt
                  have HST := Lib.hid (dealtT_succ q h' SN RN k i)
                  obtain ⟨f, hf⟩ : ∃ f, f = polN SN RN k i := ⟨_, rfl⟩
                  have hfl : f.length ≤ k + 1 := by rw [hf]; exact polN_len
                  have HFP := Lib.hid (show ∀ x ∈ f, x < q by rw [hf]; exact polN_lt (by omega) HSP.out HRP.out k i)
                  rw [← hf] at HST
                  obtain ⟨T, hT⟩ : ∃ T, T = (RN.drop (i * k)).take k := ⟨_, rfl⟩
                  have HPOL : Hid ([nthN SN i] ++ T = f) := by rw [hf, hT]; rfl
                  have hTN : NatsAt wr B RN := HRNA.out.below hbwr
                  have hTl : T.length = 0 := by rw [hT, List.length_take, HK00.out]; omega
                  have HF := Lib.hid hf
                  have HTT := Lib.hid hT
                  have hXn : nthN SN i < q := nthN_lt (by omega) HSP.out i
                  have HDEAL := Lib.hid (fun (w6 : World) (Fa : Option Addr) (fc : Nat) (hb : Below wr.heap.size wr w6) (hF : NatsAt w6 Fa f) (hFb : ∀ b off, Fa = some ⟨b, off, none⟩ → wr.heap.size ≤ b ∧ b < w6.heap.size) => deal_go HDr.out hb hF hFb fc (show 1 ≤ q by omega) (by omega) HFP.out (show h' < q by omega) (by omega) (by have := HK00.out; omega) (by omega))
                  have hT0 : T = [] := List.eq_nil_of_length_eq_zero (by omega)
                  have hcb : B = none → cb = 0 := HOK.out.nil
                  have HCB := Lib.hid hcb
                  subst hT0
                  clear hTN hTl hf hT hcb
                  go_wp2_with (first
                    | (at_builtin; refine app_sl rfl (.tmp 54) (.tmp 63) rfl (base := wr.heap.size) (v := .slice (some ⟨wr.heap.size, 0, none⟩) 1 1) (S := [nthN SN i]) [] B cb rfl ((lit1_nats wr (nthN SN i)).own (Nat.le_refl _) (by unfold maxLen; simp)) rfl (NatsAt.nil _ _) (fun e => ⟨rfl, HCB.out e⟩) (.inl rfl) (by simp) (by simp) ?_; intro v6 w6 hown6 hb6; rw [HPOL.out] at hown6; obtain ⟨Fa, fc, rfl, hFN, hFS, hFb⟩ := own_sl hown6 rfl; have hb6' : Below wr.heap.size wr w6 := (below_of_alloc hb6 (Nat.le_refl _)); have HFN := Lib.hid hFN; have HFB := Lib.hid hFb; clear hFN hFb hown6)
                    | (go_at_call 46; refine (HDEAL.out _ Fa fc hb6' HFN.out HFB.out).mono ?_; rintro e w7 ⟨rfl, hD7, hb7⟩))
                  have HD7 := Lib.hid (And.intro hD7 (hbr.trans ((hb6'.mono hDB).trans hb7)))
                  clear hD7 hb7
                  go_roundw
                  case rel => exact ⟨i + 1, by omega, by go_num, by rw [← HST.out]; exact HD7.out.1, HD7.out.2⟩
                  case measure => simp [intOf]; omega
                · obtain rfl : i = sec.length := by omega
                  obtain ⟨-, -, v, H, hbox, hR2⟩ := HDr.out
                  obtain ⟨X, cx, rfl, hX⟩ := hR2.read
                  obtain ⟨-, c3, -⟩ := dlr_box hbox
                  have hX2 : ShP (fun b => w.heap.size ≤ b) wr X cx (shL (dealN q n' h' SN RN)) := by rw [HD0.out]; exact hX.mono (fun b _ hb => by omega)
                  have hlen : (dealN q n' h' SN RN).length = (dealtT q h' SN RN k sec.length).length := by rw [HD0.out]
                  have HX := Lib.hid (And.intro hX2 hlen)
                  clear hX hX2 hlen hbox hR2
                  go_wp2_with fail
                  go_ret2
                  exact ⟨X, cx, by rw [shL_len, HX.out.2]; rfl, HX.out.1, hbwr⟩
            · have hsplit : True := trivial
              obtain ⟨k, hk⟩ : ∃ k, k = n' - 1 := ⟨_, rfl⟩
              have hk0 : 0 < k := by omega
              have hk' : (n' : Int) - 1 = (k : Int) := by omega
              have hle' : ran.length = sec.length * k := by
                have h1 := hle
                rw [hk'] at h1
                exact Int.ofNat_inj.1 (by push_cast; exact h1)
              rw [hk'] at t2 HRN
              have HK := Lib.hid hk'
              have HLE := Lib.hid hle'
              have HOK2 := Lib.hid (show IOK B cb (ran.map Int.toNat).length by rw [hs2]; exact HOK.out)
              have HS1 := Lib.hid hs1
              have HS2 := Lib.hid hs2
              rw [← hk] at HD0
              clear hn1 hva hp he hv hi1 hi2 hle hdl e1 e3 e2 e4 hAn hRn hd0 hs1 hs2 hle' hk
              generalize sec.map Int.toNat = SN at *
              generalize ran.map Int.toNat = RN at *
              have hp' : True := trivial
              go_enter Tryd.func20, Tryd.ntmps20
              go_wp2_with fail
              refine ret_below HV.out ?_
              intro w1 hb1
              have hbw1 := below_trans (below_alloc _ _) hb1
              have HP := Lib.hid ((PlanCell.new (w := w) q n' h' rfl).below hb1)
              have p0 := HP.out.c0
              have p1 := HP.out.c1
              have p2 := HP.out.c2
              go_wp2_with fail
              refine ret_below (HES.out _ hbw1) ?_
              intro w2 hb2
              have hbw2 := below_trans hbw1 hb2
              have HP2 := Lib.hid (HP.out.below hb2)
              have p02 := HP2.out.c0
              have p12 := HP2.out.c1
              have p22 := HP2.out.c2
              go_wp2_with fail
              refine ret_below (HER.out _ hbw2) ?_
              intro w3 hb3
              have hbw3 := below_trans hbw2 hb3
              have HP3 := Lib.hid (HP2.out.below hb3)
              have p03 := HP3.out.c0
              have p13 := HP3.out.c1
              have p23 := HP3.out.c2
              go_wp2_with fail
              refine ret_below (HRN.out _) ?_
              intro w4 hb4
              have hbw4 := below_trans hbw3 hb4
              have HP4 := Lib.hid (HP3.out.below hb4)
              have p04 := HP4.out.c0
              have p14 := HP4.out.c1
              have p24 := HP4.out.c2
              clear p0 p1 p2 p02 p12 p22 p03 p13 p23
              go_wp2_with fail
              refine (newDealer_any q n' h' _ (by omega)).mono ?_
              rintro e w5 ⟨d, base, rfl, hdw, hD, hb5⟩
              have hbw5 := below_trans hbw4 hb5
              have p15 := (HP4.out.below hb5).c1
              have hzw := hbw4.size
              have HD := Lib.hid hD
              have hdb := hD.1
              clear hD p04 p14 p24
              have HRM := Lib.hid (show ∀ i, i < sec.length → i * k + k ≤ ran.length from fun i hi => by rw [HLE.out]; exact part_bd hi)
              have hcap := HOK.out.len
              have HD1 : Hid (DlrAt w5 d base q n' h' (dealtT q h' SN RN k 0)) := by rw [dealtT_zero]; exact HD.out
              go_wp2_with fail
              go_loopw [47] (fun i wr => ∃ m : Nat, m ≤ sec.length ∧ i = .int .i64 m ∧ DlrAt wr d base q n' h' (dealtT q h' SN RN k m) ∧ Below base w5 wr) (fun i _ => sec.length - (intOf i).toNat)
              case atStart => exact ⟨0, Nat.zero_le _, rfl, HD1.out, Below.refl _ _⟩
              case round =>
                obtain ⟨i, hi, rfl, hDr, hbr⟩ := hrel
                have hbwr : Below w.heap.size w wr := hbw5.trans (hbr.mono (by omega))
                have HDr := Lib.hid hDr
                have hzr := hbr.size
                have hDB : base ≤ wr.heap.size := HDr.out.2.1
                clear hDr p15
                by_cases hlt : i < sec.length
                · obtain ⟨bA, oA, rfl, hbA, hcA⟩ := (HAN.out.below hbwr) i (by rw [HS1.out]; exact hlt)
                  have hrm := HRM.out i hlt
                  have HST := Lib.hid (dealtT_succ q h' SN RN k i)
                  obtain ⟨f, hf⟩ : ∃ f, f = polN SN RN k i := ⟨_, rfl⟩
                  have hfl : f.length ≤ k + 1 := by rw [hf]; exact polN_len
                  have HFP := Lib.hid (show ∀ x ∈ f, x < q by rw [hf]; exact polN_lt (by omega) HSP.out HRP.out k i)
                  rw [← hf] at HST
                  obtain ⟨T, hT⟩ : ∃ T, T = (RN.drop (i * k)).take k := ⟨_, rfl⟩
                  have HPOL : Hid ([nthN SN i] ++ T = f) := by rw [hf, hT]; rfl
                  have hTN : NatsAt wr B RN := HRNA.out.below hbwr
                  have hTl : T.length = k := by rw [hT, List.length_take, List.length_drop, HS2.out]; omega
                  have HF := Lib.hid hf
                  have HTT := Lib.hid hT
                  have hXn : nthN SN i < q := nthN_lt (by omega) HSP.out i
                  have HDEAL := Lib.hid (fun (w6 : World) (Fa : Option Addr) (fc : Nat) (hb : Below wr.heap.size wr w6) (hF : NatsAt w6 Fa f) (hFb : ∀ b off, Fa = some ⟨b, off, none⟩ → wr.heap.size ≤ b ∧ b < w6.heap.size) => deal_go HDr.out hb hF hFb fc (show 1 ≤ q by omega) (by omega) HFP.out (show h' < q by omega) (by omega) (by omega) (by omega))
                  obtain ⟨lo, hlo⟩ : ∃ lo, lo = i * k := ⟨_, rfl⟩
                  have e1 : (i : Int) * (k : Int) = (lo : Int) := by rw [hlo]; push_cast; rfl
                  have b1 : (0 : Int) ≤ (i : Int) * (k : Int) := by rw [e1]; omega
                  have b2 : (i : Int) * (k : Int) ≤ 1048576 := by rw [e1]; omega
                  rw [← hlo] at hrm
                  obtain ⟨bB, oB, rfl, hbB, -⟩ := hTN lo (by rw [HS2.out]; omega)
                  have hne : ¬ cb = lo := by omega
                  obtain ⟨hi', hh'⟩ : ∃ x, x = lo + k := ⟨_, rfl⟩
                  have e2 : ((i : Int) + 1) * (k : Int) = (hi' : Int) := by rw [Int.add_mul, e1, Int.one_mul]; omega
                  have b3 : (0 : Int) ≤ ((i : Int) + 1) * (k : Int) := by rw [e2]; omega
                  have b4 : ((i : Int) + 1) * (k : Int) ≤ 1048576 := by rw [e2]; omega
                  have HTL := Lib.hid (show T.length = hi' - lo by omega)
                  have hTn : NatsAt wr (some ⟨bB, oB + lo, none⟩) T := by rw [hT, ← hlo]; exact (hTN.dropAt lo).take k
                  have HTN := Lib.hid hTn
                  have c1 : (lo : Int) ≤ (hi' : Int) := by omega
                  have c2 : (hi' : Int) ≤ (cb : Int) := by omega
                  have c3 : (lo : Int) ≤ (cb : Int) := by omega
                  have c4 : (0 : Int) ≤ (lo : Int) := by omega
                  have c5 : T.length ≤ 1048576 := by omega
                  clear hlo hTN hTl hf hT hTn hh'
                  go_wp2_with (first
                    | (at_builtin; refine app_sl rfl (.tmp 54) (.tmp 63) rfl (base := wr.heap.size) (v := .slice (some ⟨wr.heap.size, 0, none⟩) 1 1) (S := [nthN SN i]) T (some ⟨bB, oB + lo, none⟩) (cb - lo) rfl ((lit1_nats wr (nthN SN i)).own (Nat.le_refl _) (by unfold maxLen; simp)) (by rw [HTL.out]; rfl) (HTN.out.alloc _) (fun e => by cases e) (.inr (fun a e => by injection e with e; subst e; rfl)) (by simp; omega) (by simp) ?_; intro v6 w6 hown6 hb6; rw [HPOL.out] at hown6; obtain ⟨Fa, fc, rfl, hFN, hFS, hFb⟩ := own_sl hown6 rfl; have hb6' : Below wr.heap.size wr w6 := (below_of_alloc hb6 (Nat.le_refl _)); have HFN := Lib.hid hFN; have HFB := Lib.hid hFb; clear hFN hFb hown6)
                    | (go_at_call 46; refine (HDEAL.out _ Fa fc hb6' HFN.out HFB.out).mono ?_; rintro e w7 ⟨rfl, hD7, hb7⟩))
                  have HD7 := Lib.hid (And.intro hD7 (hbr.trans ((hb6'.mono hDB).trans hb7)))
                  clear hD7 hb7
                  go_roundw
                  case rel => exact ⟨i + 1, by omega, by go_num, by rw [← HST.out]; exact HD7.out.1, HD7.out.2⟩
                  case measure => simp [intOf]; omega
                · obtain rfl : i = sec.length := by omega
                  obtain ⟨-, -, v, H, hbox, hR2⟩ := HDr.out
                  obtain ⟨X, cx, rfl, hX⟩ := hR2.read
                  obtain ⟨-, c3, -⟩ := dlr_box hbox
                  have hX2 : ShP (fun b => w.heap.size ≤ b) wr X cx (shL (dealN q n' h' SN RN)) := by rw [HD0.out]; exact hX.mono (fun b _ hb => by omega)
                  have hlen : (dealN q n' h' SN RN).length = (dealtT q h' SN RN k sec.length).length := by rw [HD0.out]
                  have HX := Lib.hid (And.intro hX2 hlen)
                  clear hX hX2 hlen hbox hR2
                  go_wp2_with fail
                  go_ret2
                  exact ⟨X, cx, by rw [shL_len, HX.out.2]; rfl, HX.out.1, hbwr⟩
          · have he := dlE_bad (sec := sec) (ran := ran) hp hbig (fun H => hle H.2.2)
            rw [dlL_no (by rw [he]; decide), he]
            have t2 : ((ran.length : Int) != (sec.length : Int) * ((n' : Int) - 1)) = true := by simp [hle]
            clear hva hp he hv hi1 hi2 hle
            go_enter Tryd.func20, Tryd.ntmps20
            go_wp2_with fail
            refine ret_below HV.out ?_
            intro w1 hb1
            have hbw1 := below_trans (below_alloc _ _) hb1
            have HP := Lib.hid ((PlanCell.new (w := w) q n' h' rfl).below hb1)
            have p0 := HP.out.c0
            have p1 := HP.out.c1
            have p2 := HP.out.c2
            go_wp2_with fail
            refine ret_below (HES.out _ hbw1) ?_
            intro w2 hb2
            have hbw2 := below_trans hbw1 hb2
            have HP2 := Lib.hid (HP.out.below hb2)
            have p02 := HP2.out.c0
            have p12 := HP2.out.c1
            have p22 := HP2.out.c2
            go_wp2_with fail
            refine ret_below (HER.out _ hbw2) ?_
            intro w3 hb3
            have hbw3 := below_trans hbw2 hb3
            have HP3 := Lib.hid (HP2.out.below hb3)
            have p03 := HP3.out.c0
            have p13 := HP3.out.c1
            have p23 := HP3.out.c2
            go_wp2_with fail
            refine ret_below (HRN.out _) ?_
            intro w4 hb4
            go_wp2_with fail
            go_ret2
            exact ShErr.nil _ (below_trans hbw3 hb4)
end Go.Proofs.YtkjpnhhkebbmdaaDoor
