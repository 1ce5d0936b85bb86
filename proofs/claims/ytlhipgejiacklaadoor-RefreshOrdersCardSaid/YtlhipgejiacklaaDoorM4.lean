/-
  Shares: Deal.
  Shares: copies.
  Shares: plans of dice; lists in another order.
  Shares that lie on polynomials: they are good, give the values at 0, and fit; dealt shares; the sanity check.
  Shares: what stands while dice are thrown.
  Shares: a plan of the statements, and shares of a secret as the calls make and take them.
  Shares: the sum of two, the product with an element.
  Shares: sums of shares are shares of sums; lists of shares under way whose values lie anywhere.
  Conditions: those that each theorem names.
-/
import Derived.Test.YtlhipgejiacklaaDoorM3
import Derived.StillTailTactics
namespace Go.Proofs.YtlhipgejiacklaaDoor
open Go.RowKit

theorem plan_nat {p n h : Int} (H : PlanP p n h) (hv : primeV p = validI p) : ∃ q n' h' : Nat, p = (q : Int) ∧ n = (n' : Int) ∧ h = (h' : Int) ∧ PrimeN q ∧ q ≤ 1073741824 ∧ 1 ≤ n' ∧ n' ≤ h' ∧ h' ≤ 16 ∧ h' < q := by
  obtain ⟨q, rfl, hq, hq2⟩ := plan_prime H hv
  obtain ⟨l1, l2, l3, l4, -⟩ := H
  exact ⟨q, n.toNat, h.toNat, rfl, by omega, by omega, hq, hq2, by omega, by omega, by omega, by omega⟩
theorem part_bd {i k m : Nat} (hi : i < m) : i * k + k ≤ m * k := by
  have := Nat.mul_le_mul_right k (show i + 1 ≤ m by omega)
  rw [Nat.add_mul, Nat.one_mul] at this; exact this
theorem NatsAt.dropAt {w : World} {b off : Nat} {L : List Nat} (h : NatsAt w (some ⟨b, off, none⟩) L) (i : Nat) : NatsAt w (some ⟨b, off + i, none⟩) (L.drop i) := fun k hk => by
  rw [List.length_drop] at hk
  obtain ⟨b', off', e, hb, hc⟩ := h (i + k) (by omega)
  injection e with e; injection e with e1 e2; subst e1; subst e2
  refine ⟨b, off + i, rfl, hb, ?_⟩
  rw [show off + i + k = off + (i + k) by omega, hc]
  simp [nthN, List.getD_eq_getElem?_getD]
theorem nats_take {w : World} {A : Option Addr} {L : List Nat} (h : NatsAt w A L) (k : Nat) : NatsAt w A (L.take k) := h.take k
/-- A part of the random numbers, as a slice. -/
theorem part_at {w : World} {B : Option Addr} {c lo k : Nat} {ran : List Nat} (h : NatsAt w B ran) (hok : IOK B c ran.length) (hlo : lo + k ≤ ran.length) :
    ∃ ad, sliced B lo (lo + k) c 1 = .slice ad ((ran.drop lo).take k).length (c - lo) ∧ NatsAt w ad ((ran.drop lo).take k) ∧ (ad = none → ((ran.drop lo).take k).length = 0 ∧ c - lo = 0) ∧ (((ran.drop lo).take k).length = 0 ∨ ∀ a, ad = some a → a.spot = none) := by
  have hlen : ((ran.drop lo).take k).length = k := by rw [List.length_take, List.length_drop]; omega
  rw [hlen]
  have hcl := hok.len
  rcases Nat.eq_zero_or_pos k with h0 | h0
  · subst h0
    unfold sliced
    refine ⟨if c = lo then B else B.map (·.add (lo * 1)), by simp, by rw [show (ran.drop lo).take 0 = [] from rfl]; exact NatsAt.nil _ _, fun e => ⟨rfl, ?_⟩, .inl rfl⟩
    by_cases hc : c = lo
    · omega
    · rw [if_neg hc] at e
      have : B = none := by cases B with
        | none => rfl
        | some a => cases e
      have := hok.nil this; omega
  · have hne : ¬ c = lo := by omega
    obtain ⟨b, off, rfl, hb, hc⟩ := h lo (by omega)
    unfold sliced
    rw [if_neg hne, Nat.mul_one]
    have hadd : (⟨b, off, none⟩ : Addr).add lo = ⟨b, off + lo, none⟩ := by
      unfold Addr.add; split
      · rename_i h; subst h; rfl
      · rfl
    refine ⟨some ⟨b, off + lo, none⟩, ?_, (h.dropAt lo).take k, (fun e => by cases e), .inr (fun a e => by injection e with e; subst e; rfl)⟩
    simp only [Option.map_some, hadd]
    rw [show lo + k - lo = k by omega]
theorem DlrAt.below {w w' : World} {d base : Nat} {p n h : Int} {T : List ShN} (H : DlrAt w d base p n h T) (hb : Below w.heap.size w w') : DlrAt w' d base p n h T := by
  obtain ⟨h1, h2, v, H', h3, h4⟩ := H
  exact ⟨h1, Nat.le_trans h2 hb.size, v, H', (hb.block d (by omega)).trans h3, h4.below hb⟩

theorem deal_go {wr w6 : World} {d base p k h0 : Nat} {n h : Int} {sec ran : List Nat} {m : Nat} (hD : DlrAt wr d base p n h (dealtT p h0 sec ran k m)) (hb : Below wr.heap.size wr w6) {F : Option Addr} {f : List Nat} (hF : NatsAt w6 F f) (hFb : ∀ b off, F = some ⟨b, off, none⟩ → wr.heap.size ≤ b ∧ b < w6.heap.size) (cf : Nat)
    (hp : 1 ≤ p) (hp2 : p ≤ 2147483648) (hf : ∀ x ∈ f, x < p) (hh : h0 < p) (hh0 : h0 ≤ 1000) (hfl : f.length ≤ 1048576) (hm : m ≤ 1048576) :
    Calls Tryd.prog 85 #[.pointer (some ⟨d, 0, none⟩), .slice F f.length cf] w6
      (fun e w' => e = .returned (.tuple #[]) ∧ DlrAt w' d base p n h (stepT p f (dealtT p h0 sec ran k m) (dealtT p h0 sec ran k m).length) ∧ Below base w6 w') := by
  obtain ⟨h1, h2, v, H, h3, h4⟩ := hD
  refine deal_any d base p n h _ F cf f w6 v H h1 (Nat.le_trans h2 hb.size) ((hb.block d (by omega)).trans h3) (h4.below hb) hF (fun bF off e => ⟨fun i hi b e2 => ?_, fun b e2 => ?_⟩) (fun bF off e => (hFb bF off e).2) hp hp2 hf (fun j hj => ?_) hfl (by rw [dealtT_len]; exact hh0) (fun j hj => ?_)
  · have := (hFb bF off e).1
    have := (World.ownsRow.lt (h4.row i hi) b e2).2
    omega
  · have := (hFb bF off e).1
    have := (World.ownsRow.lt h4.out b e2).2
    omega
  · rw [dealtT_len] at hj
    rw [(dealtT_at hj).1]; omega
  · rw [dealtT_len] at hj
    rw [(dealtT_at hj).2, List.length_map, List.length_range]; exact hm

set_option maxRecDepth 100000 in
set_option maxHeartbeats 4000000 in
theorem dealS_any (p n h : Int) (A B : Option Addr) (ca cb : Nat) (sec ran : List Int) (w : World) (hv : primeV p = validI p) (hB : Bases w) (hA : IntsAt w A sec) (hR : IntsAt w B ran) (hok : IOK B cb ran.length) (hl1 : sec.length ≤ 1048576) (hl2 : ran.length ≤ 1048576) :
    Calls Tryd.prog 50 #[planV p n h, .slice A sec.length ca, .slice B ran.length cb] w (ShErr (shL (dlL p n h sec ran)) (dlE p n h sec ran) w) := by
  have hva := valid_plan p n h (w.alloc (.cells #[.int .i64 p, .int .i64 n, .int .i64 h] 28)) (hB.keep (below_alloc _ _))
  have HA := Lib.hid hA
  have HR := Lib.hid hR
  have HOK := Lib.hid hok
  clear hA hR hok hB
  have HES := Lib.hid (fun (W : World) (hb : Below w.heap.size w W) => elements_plan p n h A sec ca W (HA.out.below hb) (by omega))
  have HER := Lib.hid (fun (W : World) (hb : Below w.heap.size w W) => elements_plan p n h B ran cb W (HR.out.below hb) (by omega))
  cases hp : plB p n h with
  | false =>
    have he := dlE_pl (sec := sec) (ran := ran) hp
    rw [dlL_no (by rw [he]; decide), he]
    rw [hp] at hva
    have HV := Lib.hid hva
    clear hva hp he hv
    go_enter Tryd.func50, Tryd.ntmps50
    go_wp2_with fail
    refine ret_below HV.out ?_
    intro w1 hb1
    go_wp2_with fail
    go_ret2
    exact ShErr.nil _ (below_trans (below_alloc _ _) hb1)
  | true =>
    rw [hp] at hva
    have HV := Lib.hid hva
    by_cases hbig : 2048 < sec.length
    · have he := dlE_big (ran := ran) hp hbig
      rw [dlL_no (by rw [he]; decide), he]
      have t1 : decide (2048 < (sec.length : Int)) = true := decide_eq_true (by omega)
      clear hva hp he hv
      go_enter Tryd.func50, Tryd.ntmps50
      go_wp2_with fail
      refine ret_below HV.out ?_
      intro w1 hb1
      have hbw1 := below_trans (below_alloc _ _) hb1
      have HP := Lib.hid ((PlanCell.new (w := w) p n h rfl).below hb1)
      have p0 := HP.out.c0
      have p1 := HP.out.c1
      have p2 := HP.out.c2
      go_wp2_with fail
      go_ret2
      exact ShErr.nil _ hbw1
    · have t1 : decide (2048 < (sec.length : Int)) = false := decide_eq_false (by omega)
      cases hi1 : inside p sec with
      | false =>
        have he := dlE_bad (sec := sec) (ran := ran) hp hbig (fun H => by rw [hi1] at H; cases H.1)
        rw [dlL_no (by rw [he]; decide), he]
        rw [hi1] at HES
        clear hva hp he hv hi1
        go_enter Tryd.func50, Tryd.ntmps50
        go_wp2_with fail
        refine ret_below HV.out ?_
        intro w1 hb1
        have hbw1 := below_trans (below_alloc _ _) hb1
        have HP := Lib.hid ((PlanCell.new (w := w) p n h rfl).below hb1)
        have p0 := HP.out.c0
        have p1 := HP.out.c1
        have p2 := HP.out.c2
        go_wp2_with fail
        refine ret_below (HES.out _ hbw1) ?_
        intro w2 hb2
        go_wp2_with fail
        go_ret2
        exact ShErr.nil _ (below_trans hbw1 hb2)
      | true =>
        rw [hi1] at HES
        cases hi2 : inside p ran with
        | false =>
          have he := dlE_bad (sec := sec) (ran := ran) hp hbig (fun H => by rw [hi2] at H; cases H.2.1)
          rw [dlL_no (by rw [he]; decide), he]
          rw [hi2] at HER
          clear hva hp he hv hi1 hi2
          go_enter Tryd.func50, Tryd.ntmps50
          go_wp2_with fail
          refine ret_below HV.out ?_
          intro w1 hb1
          have hbw1 := below_trans (below_alloc _ _) hb1
          have HP := Lib.hid ((PlanCell.new (w := w) p n h rfl).below hb1)
          have p0 := HP.out.c0
          have p1 := HP.out.c1
          have p2 := HP.out.c2
          go_wp2_with fail
          refine ret_below (HES.out _ hbw1) ?_
          intro w2 hb2
          have hbw2 := below_trans hbw1 hb2
          have HP2 := Lib.hid (HP.out.below hb2)
          have p02 := HP2.out.c0
          have p12 := HP2.out.c1
          have p22 := HP2.out.c2
          go_wp2_with fail
          refine ret_below (HER.out _ hbw2) ?_
          intro w3 hb3
          go_wp2_with fail
          go_ret2
          exact ShErr.nil _ (below_trans hbw2 hb3)
        | true =>
          rw [hi2] at HER
          obtain ⟨q, n', h', rfl, rfl, rfl, hq, hq2, m1, m2, m3, m4⟩ := plan_nat (of_decide_eq_true hp) hv
          have HRN := Lib.hid (fun (W : World) => random_any q n' h' sec.length W (by omega) (by omega) (by omega) (by omega))
          by_cases hle : (ran.length : Int) = sec.length * ((n' : Int) - 1)
          · have he := dlE_ok (sec := sec) (ran := ran) hp hbig ⟨hi1, hi2, hle⟩
            have t2 : ((ran.length : Int) != (sec.length : Int) * ((n' : Int) - 1)) = false := by simp [hle]
            have hdl : dlL q n' h' sec ran = dealN q n' h' (sec.map Int.toNat) (ran.map Int.toNat) := by
              unfold dlL; rw [if_pos he, Int.toNat_natCast, Int.toNat_natCast, Int.toNat_natCast]
            rw [hdl, he]
            obtain ⟨e1, e2⟩ := inside_nat hi1
            obtain ⟨e3, e4⟩ := inside_nat hi2
            have hs1 : (sec.map Int.toNat).length = sec.length := by simp
            have hs2 : (ran.map Int.toNat).length = ran.length := by simp
            have hAn : NatsAt w A (sec.map Int.toNat) := IntsAt.nats (by rw [e1]; exact HA.out)
            have hRn : NatsAt w B (ran.map Int.toNat) := IntsAt.nats (by rw [e3]; exact HR.out)
            have HAN := Lib.hid hAn
            have HRNA := Lib.hid hRn
            have HSP := Lib.hid e2
            have HRP := Lib.hid e4
            have hd0 : dealN q n' h' (sec.map Int.toNat) (ran.map Int.toNat) = dealtT q h' (sec.map Int.toNat) (ran.map Int.toNat) (n' - 1) sec.length := by unfold dealN; rw [hs1]
            have HD0 := Lib.hid hd0
            by_cases hn1 : n' = 1
            · have hsplit : True := trivial
              obtain ⟨k, hk⟩ : ∃ k, k = n' - 1 := ⟨_, rfl⟩
              have hk00 : k = 0 := by omega
              have hk' : (n' : Int) - 1 = 0 := by omega
              have hle' : ran.length = sec.length * k := by
                have h1 := hle
                rw [hk', Int.mul_zero] at h1
                rw [hk00]; omega
              rw [hk', Int.mul_zero] at t2 HRN
              have HK := Lib.hid hk'
              have HK00 := Lib.hid hk00
              have HLE := Lib.hid hle'
              have HOK2 := Lib.hid (show IOK B cb (ran.map Int.toNat).length by rw [hs2]; exact HOK.out)
              have HS1 := Lib.hid hs1
              have HS2 := Lib.hid hs2
              rw [← hk] at HD0
              clear hn1 hva hp he hv hi1 hi2 hle hdl e1 e3 e2 e4 hAn hRn hd0 hs1 hs2 hle' hk hk00
              generalize sec.map Int.toNat = SN at *
              generalize ran.map Int.toNat = RN at *
              have hp' : True := trivial
              go_enter Tryd.func50, Tryd.ntmps50
              go_wp2_with fail
              refine ret_below HV.out ?_
              intro w1 hb1
              have hbw1 := below_trans (below_alloc _ _) hb1
              have HP := Lib.hid ((PlanCell.new (w := w) q n' h' rfl).below hb1)
              have p0 := HP.out.c0
              have p1 := HP.out.c1
              have p2 := HP.out.c2
              go_wp2_with fail
              refine ret_below (HES.out _ hbw1) ?_
              intro w2 hb2
              have hbw2 := below_trans hbw1 hb2
              have HP2 := Lib.hid (HP.out.below hb2)
              have p02 := HP2.out.c0
              have p12 := HP2.out.c1
              have p22 := HP2.out.c2
              go_wp2_with fail
              refine ret_below (HER.out _ hbw2) ?_
              intro w3 hb3
              have hbw3 := below_trans hbw2 hb3
              have HP3 := Lib.hid (HP2.out.below hb3)
              have p03 := HP3.out.c0
              have p13 := HP3.out.c1
              have p23 := HP3.out.c2
              go_wp2_with fail
              refine ret_below (HRN.out _) ?_
              intro w4 hb4
              have hbw4 := below_trans hbw3 hb4
              have HP4 := Lib.hid (HP3.out.below hb4)
              have p04 := HP4.out.c0
              have p14 := HP4.out.c1
              have p24 := HP4.out.c2
              clear p0 p1 p2 p02 p12 p22 p03 p13 p23
              go_wp2_with fail
              refine (newDealer_any q n' h' _ (by omega)).mono ?_
              rintro e w5 ⟨d, base, rfl, hdw, hD, hb5⟩
              have hbw5 := below_trans hbw4 hb5
              have p15 := (HP4.out.below hb5).c1
              have hzw := hbw4.size
              have HD := Lib.hid hD
              have hdb := hD.1
              clear hD p04 p14 p24
              have HRM := Lib.hid (show ∀ i, i < sec.length → i * k + k ≤ ran.length from fun i hi => by rw [HLE.out]; exact part_bd hi)
              have hcap := HOK.out.len
              have HD1 : Hid (DlrAt w5 d base q n' h' (dealtT q h' SN RN k 0)) := by rw [dealtT_zero]; exact HD.out
              go_wp2_with fail
              go_loopw [47] (fun i wr => ∃ m : Nat, m ≤ sec.length ∧ i = .int .i64 m ∧ DlrAt wr d base q n' h' (dealtT q h' SN RN k m) ∧ Below base w5 wr) (fun i _ => sec.length - (intOf i).toNat)
              case atStart => exact ⟨0, Nat.zero_le _, rfl, HD1.out, Below.refl _ _⟩
              case round =>
                obtain ⟨i, hi, rfl, hDr, hbr⟩ := hrel
                have hbwr : Below w.heap.size w wr := hbw5.trans (hbr.mono (by omega))
                have HDr := Lib.hid hDr
                have hzr := hbr.size
                have hDB : base ≤ wr.heap.size := HDr.out.2.1
                clear hDr p15
                by_cases hlt : i < sec.length
                · obtain ⟨bA, oA, rfl, hbA, hcA⟩ := (HAN.out.below hbwr) i (by rw [HS1.out]; exact hlt)
                  have hrm := HRM.out i hlt
                  have HST := Lib.hid (dealtT_succ q h' SN RN k i)
                  obtain ⟨f, hf⟩ : ∃ f, f = polN SN RN k i := ⟨_, rfl⟩
                  have hfl : f.length ≤ k + 1 := by rw [hf]; exact polN_len
                  have HFP := Lib.hid (show ∀ x ∈ f, x < q by rw [hf]; exact polN_lt (by omega) HSP.out HRP.out k i)
                  rw [← hf] at HST
                  obtain ⟨T, hT⟩ : ∃ T, T = (RN.drop (i * k)).take k := ⟨_, rfl⟩
                  have HPOL : Hid ([nthN SN i] ++ T = f) := by rw [hf, hT]; rfl
                  have hTN : NatsAt wr B RN := HRNA.out.below hbwr
                  have hTl : T.length = 0 := by rw [hT, List.length_take, HK00.out]; omega
                  have HF := Lib.hid hf
                  have HTT := Lib.hid hT
                  have hXn : nthN SN i < q := nthN_lt (by omega) HSP.out i
                  have HDEAL := Lib.hid (fun (w6 : World) (Fa : Option Addr) (fc : Nat) (hb : Below wr.heap.size wr w6) (hF : NatsAt w6 Fa f) (hFb : ∀ b off, Fa = some ⟨b, off, none⟩ → wr.heap.size ≤ b ∧ b < w6.heap.size) => deal_go HDr.out hb hF hFb fc (show 1 ≤ q by omega) (by omega) HFP.out (show h' < q by omega) (by omega) (by have := HK00.out; omega) (by omega))
                  have hT0 : T = [] := List.eq_nil_of_length_eq_zero (by omega)
                  have hcb : B = none → cb = 0 := HOK.out.nil
                  have HCB := Lib.hid hcb
                  subst hT0
                  clear hTN hTl hf hT hcb
                  go_wp2_with (first
                    | (at_builtin; refine app_sl rfl (.tmp 54) (.tmp 63) rfl (base := wr.heap.size) (v := .slice (some ⟨wr.heap.size, 0, none⟩) 1 1) (S := [nthN SN i]) [] B cb rfl ((lit1_nats wr (nthN SN i)).own (Nat.le_refl _) (by unfold maxLen; simp)) rfl (NatsAt.nil _ _) (fun e => ⟨rfl, HCB.out e⟩) (.inl rfl) (by simp) (by simp) ?_; intro v6 w6 hown6 hb6; rw [HPOL.out] at hown6; obtain ⟨Fa, fc, rfl, hFN, hFS, hFb⟩ := own_sl hown6 rfl; have hb6' : Below wr.heap.size wr w6 := (below_of_alloc hb6 (Nat.le_refl _)); have HFN := Lib.hid hFN; have HFB := Lib.hid hFb; clear hFN hFb hown6)
                    | (go_at_call 85; refine (HDEAL.out _ Fa fc hb6' HFN.out HFB.out).mono ?_; rintro e w7 ⟨rfl, hD7, hb7⟩))
                  have HD7 := Lib.hid (And.intro hD7 (hbr.trans ((hb6'.mono hDB).trans hb7)))
                  clear hD7 hb7
                  go_roundw
                  case rel => exact ⟨i + 1, by omega, by go_num, by rw [← HST.out]; exact HD7.out.1, HD7.out.2⟩
                  case measure => simp [intOf]; omega
                · obtain rfl : i = sec.length := by omega
                  obtain ⟨-, -, v, H, hbox, hR2⟩ := HDr.out
                  obtain ⟨X, cx, rfl, hX⟩ := hR2.read
                  obtain ⟨-, c3, -⟩ := dlr_box hbox
                  have hX2 : ShP (fun b => w.heap.size ≤ b) wr X cx (shL (dealN q n' h' SN RN)) := by rw [HD0.out]; exact hX.mono (fun b _ hb => by omega)
                  have hlen : (dealN q n' h' SN RN).length = (dealtT q h' SN RN k sec.length).length := by rw [HD0.out]
                  have HX := Lib.hid (And.intro hX2 hlen)
                  clear hX hX2 hlen hbox hR2
                  go_wp2_with fail
                  go_ret2
                  exact ⟨X, cx, by rw [shL_len, HX.out.2]; rfl, HX.out.1, hbwr⟩
            · have hsplit : True := trivial
              obtain ⟨k, hk⟩ : ∃ k, k = n' - 1 := ⟨_, rfl⟩
              have hk0 : 0 < k := by omega
              have hk' : (n' : Int) - 1 = (k : Int) := by omega
              have hle' : ran.length = sec.length * k := by
                have h1 := hle
                rw [hk'] at h1
                exact Int.ofNat_inj.1 (by push_cast; exact h1)
              rw [hk'] at t2 HRN
              have HK := Lib.hid hk'
              have HLE := Lib.hid hle'
              have HOK2 := Lib.hid (show IOK B cb (ran.map Int.toNat).length by rw [hs2]; exact HOK.out)
              have HS1 := Lib.hid hs1
              have HS2 := Lib.hid hs2
              rw [← hk] at HD0
              clear hn1 hva hp he hv hi1 hi2 hle hdl e1 e3 e2 e4 hAn hRn hd0 hs1 hs2 hle' hk
              generalize sec.map Int.toNat = SN at *
              generalize ran.map Int.toNat = RN at *
              have hp' : True := trivial
              go_enter Tryd.func50, Tryd.ntmps50
              go_wp2_with fail
              refine ret_below HV.out ?_
              intro w1 hb1
              have hbw1 := below_trans (below_alloc _ _) hb1
              have HP := Lib.hid ((PlanCell.new (w := w) q n' h' rfl).below hb1)
              have p0 := HP.out.c0
              have p1 := HP.out.c1
              have p2 := HP.out.c2
              go_wp2_with fail
              refine ret_below (HES.out _ hbw1) ?_
              intro w2 hb2
              have hbw2 := below_trans hbw1 hb2
              have HP2 := Lib.hid (HP.out.below hb2)
              have p02 := HP2.out.c0
              have p12 := HP2.out.c1
              have p22 := HP2.out.c2
              go_wp2_with fail
              refine ret_below (HER.out _ hbw2) ?_
              intro w3 hb3
              have hbw3 := below_trans hbw2 hb3
              have HP3 := Lib.hid (HP2.out.below hb3)
              have p03 := HP3.out.c0
              have p13 := HP3.out.c1
              have p23 := HP3.out.c2
              go_wp2_with fail
              refine ret_below (HRN.out _) ?_
              intro w4 hb4
              have hbw4 := below_trans hbw3 hb4
              have HP4 := Lib.hid (HP3.out.below hb4)
              have p04 := HP4.out.c0
              have p14 := HP4.out.c1
              have p24 := HP4.out.c2
              clear p0 p1 p2 p02 p12 p22 p03 p13 p23
              go_wp2_with fail
              refine (newDealer_any q n' h' _ (by omega)).mono ?_
              rintro e w5 ⟨d, base, rfl, hdw, hD, hb5⟩
              have hbw5 := below_trans hbw4 hb5
              have p15 := (HP4.out.below hb5).c1
              have hzw := hbw4.size
              have HD := Lib.hid hD
              have hdb := hD.1
              clear hD p04 p14 p24
              have HRM := Lib.hid (show ∀ i, i < sec.length → i * k + k ≤ ran.length from fun i hi => by rw [HLE.out]; exact part_bd hi)
              have hcap := HOK.out.len
              have HD1 : Hid (DlrAt w5 d base q n' h' (dealtT q h' SN RN k 0)) := by rw [dealtT_zero]; exact HD.out
              go_wp2_with fail
              go_loopw [47] (fun i wr => ∃ m : Nat, m ≤ sec.length ∧ i = .int .i64 m ∧ DlrAt wr d base q n' h' (dealtT q h' SN RN k m) ∧ Below base w5 wr) (fun i _ => sec.length - (intOf i).toNat)
              case atStart => exact ⟨0, Nat.zero_le _, rfl, HD1.out, Below.refl _ _⟩
              case round =>
                obtain ⟨i, hi, rfl, hDr, hbr⟩ := hrel
                have hbwr : Below w.heap.size w wr := hbw5.trans (hbr.mono (by omega))
                have HDr := Lib.hid hDr
                have hzr := hbr.size
                have hDB : base ≤ wr.heap.size := HDr.out.2.1
                clear hDr p15
                by_cases hlt : i < sec.length
                · obtain ⟨bA, oA, rfl, hbA, hcA⟩ := (HAN.out.below hbwr) i (by rw [HS1.out]; exact hlt)
                  have hrm := HRM.out i hlt
                  have HST := Lib.hid (dealtT_succ q h' SN RN k i)
                  obtain ⟨f, hf⟩ : ∃ f, f = polN SN RN k i := ⟨_, rfl⟩
                  have hfl : f.length ≤ k + 1 := by rw [hf]; exact polN_len
                  have HFP := Lib.hid (show ∀ x ∈ f, x < q by rw [hf]; exact polN_lt (by omega) HSP.out HRP.out k i)
                  rw [← hf] at HST
                  obtain ⟨T, hT⟩ : ∃ T, T = (RN.drop (i * k)).take k := ⟨_, rfl⟩
                  have HPOL : Hid ([nthN SN i] ++ T = f) := by rw [hf, hT]; rfl
                  have hTN : NatsAt wr B RN := HRNA.out.below hbwr
                  have hTl : T.length = k := by rw [hT, List.length_take, List.length_drop, HS2.out]; omega
                  have HF := Lib.hid hf
                  have HTT := Lib.hid hT
                  have hXn : nthN SN i < q := nthN_lt (by omega) HSP.out i
                  have HDEAL := Lib.hid (fun (w6 : World) (Fa : Option Addr) (fc : Nat) (hb : Below wr.heap.size wr w6) (hF : NatsAt w6 Fa f) (hFb : ∀ b off, Fa = some ⟨b, off, none⟩ → wr.heap.size ≤ b ∧ b < w6.heap.size) => deal_go HDr.out hb hF hFb fc (show 1 ≤ q by omega) (by omega) HFP.out (show h' < q by omega) (by omega) (by omega) (by omega))
                  obtain ⟨lo, hlo⟩ : ∃ lo, lo = i * k := ⟨_, rfl⟩
                  have e1 : (i : Int) * (k : Int) = (lo : Int) := by rw [hlo]; push_cast; rfl
                  have b1 : (0 : Int) ≤ (i : Int) * (k : Int) := by rw [e1]; omega
                  have b2 : (i : Int) * (k : Int) ≤ 1048576 := by rw [e1]; omega
                  rw [← hlo] at hrm
                  obtain ⟨bB, oB, rfl, hbB, -⟩ := hTN lo (by rw [HS2.out]; omega)
                  have hne : ¬ cb = lo := by omega
                  obtain ⟨hi', hh'⟩ : ∃ x, x = lo + k := ⟨_, rfl⟩
                  have e2 : ((i : Int) + 1) * (k : Int) = (hi' : Int) := by rw [Int.add_mul, e1, Int.one_mul]; omega
                  have b3 : (0 : Int) ≤ ((i : Int) + 1) * (k : Int) := by rw [e2]; omega
                  have b4 : ((i : Int) + 1) * (k : Int) ≤ 1048576 := by rw [e2]; omega
                  have HTL := Lib.hid (show T.length = hi' - lo by omega)
                  have hTn : NatsAt wr (some ⟨bB, oB + lo, none⟩) T := by rw [hT, ← hlo]; exact (hTN.dropAt lo).take k
                  have HTN := Lib.hid hTn
                  have c1 : (lo : Int) ≤ (hi' : Int) := by omega
                  have c2 : (hi' : Int) ≤ (cb : Int) := by omega
                  have c3 : (lo : Int) ≤ (cb : Int) := by omega
                  have c4 : (0 : Int) ≤ (lo : Int) := by omega
                  have c5 : T.length ≤ 1048576 := by omega
                  clear hlo hTN hTl hf hT hTn hh'
                  go_wp2_with (first
                    | (at_builtin; refine app_sl rfl (.tmp 54) (.tmp 63) rfl (base := wr.heap.size) (v := .slice (some ⟨wr.heap.size, 0, none⟩) 1 1) (S := [nthN SN i]) T (some ⟨bB, oB + lo, none⟩) (cb - lo) rfl ((lit1_nats wr (nthN SN i)).own (Nat.le_refl _) (by unfold maxLen; simp)) (by rw [HTL.out]; rfl) (HTN.out.alloc _) (fun e => by cases e) (.inr (fun a e => by injection e with e; subst e; rfl)) (by simp; omega) (by simp) ?_; intro v6 w6 hown6 hb6; rw [HPOL.out] at hown6; obtain ⟨Fa, fc, rfl, hFN, hFS, hFb⟩ := own_sl hown6 rfl; have hb6' : Below wr.heap.size wr w6 := (below_of_alloc hb6 (Nat.le_refl _)); have HFN := Lib.hid hFN; have HFB := Lib.hid hFb; clear hFN hFb hown6)
                    | (go_at_call 85; refine (HDEAL.out _ Fa fc hb6' HFN.out HFB.out).mono ?_; rintro e w7 ⟨rfl, hD7, hb7⟩))
                  have HD7 := Lib.hid (And.intro hD7 (hbr.trans ((hb6'.mono hDB).trans hb7)))
                  clear hD7 hb7
                  go_roundw
                  case rel => exact ⟨i + 1, by omega, by go_num, by rw [← HST.out]; exact HD7.out.1, HD7.out.2⟩
                  case measure => simp [intOf]; omega
                · obtain rfl : i = sec.length := by omega
                  obtain ⟨-, -, v, H, hbox, hR2⟩ := HDr.out
                  obtain ⟨X, cx, rfl, hX⟩ := hR2.read
                  obtain ⟨-, c3, -⟩ := dlr_box hbox
                  have hX2 : ShP (fun b => w.heap.size ≤ b) wr X cx (shL (dealN q n' h' SN RN)) := by rw [HD0.out]; exact hX.mono (fun b _ hb => by omega)
                  have hlen : (dealN q n' h' SN RN).length = (dealtT q h' SN RN k sec.length).length := by rw [HD0.out]
                  have HX := Lib.hid (And.intro hX2 hlen)
                  clear hX hX2 hlen hbox hR2
                  go_wp2_with fail
                  go_ret2
                  exact ⟨X, cx, by rw [shL_len, HX.out.2]; rfl, HX.out.1, hbwr⟩
          · have he := dlE_bad (sec := sec) (ran := ran) hp hbig (fun H => hle H.2.2)
            rw [dlL_no (by rw [he]; decide), he]
            have t2 : ((ran.length : Int) != (sec.length : Int) * ((n' : Int) - 1)) = true := by simp [hle]
            clear hva hp he hv hi1 hi2 hle
            go_enter Tryd.func50, Tryd.ntmps50
            go_wp2_with fail
            refine ret_below HV.out ?_
            intro w1 hb1
            have hbw1 := below_trans (below_alloc _ _) hb1
            have HP := Lib.hid ((PlanCell.new (w := w) q n' h' rfl).below hb1)
            have p0 := HP.out.c0
            have p1 := HP.out.c1
            have p2 := HP.out.c2
            go_wp2_with fail
            refine ret_below (HES.out _ hbw1) ?_
            intro w2 hb2
            have hbw2 := below_trans hbw1 hb2
            have HP2 := Lib.hid (HP.out.below hb2)
            have p02 := HP2.out.c0
            have p12 := HP2.out.c1
            have p22 := HP2.out.c2
            go_wp2_with fail
            refine ret_below (HER.out _ hbw2) ?_
            intro w3 hb3
            have hbw3 := below_trans hbw2 hb3
            have HP3 := Lib.hid (HP2.out.below hb3)
            have p03 := HP3.out.c0
            have p13 := HP3.out.c1
            have p23 := HP3.out.c2
            go_wp2_with fail
            refine ret_below (HRN.out _) ?_
            intro w4 hb4
            go_wp2_with fail
            go_ret2
            exact ShErr.nil _ (below_trans hbw3 hb4)
end Go.Proofs.YtlhipgejiacklaaDoor
namespace Go.Proofs.YtlhipgejiacklaaDoor
open Go.RowKit

abbrev valsI (L : List Int) : List Value := L.map (Value.int .i64)
theorem valsI_one (L : List Int) : ∀ u ∈ valsI L, u.oneCell' = true := by
  intro u hu
  obtain ⟨x, -, rfl⟩ := List.mem_map.1 hu; rfl
theorem IntsAt.news {w : World} {a : Addr} {L : List Int} (h : IntsAt w (some a) L) (hs : L.length = 0 ∨ a.spot = none) : ∀ j u, (valsI L)[j]? = some u → w.cell? (a.add j) = some u := fun j u hu => by
  have hj : j < L.length := by
    rcases Nat.lt_or_ge j L.length with h1 | h1
    · exact h1
    · rw [List.getElem?_eq_none (by simp [valsI]; omega)] at hu; cases hu
  obtain ⟨b, off, hA, hb, hc⟩ := h j hj
  injection hA with hA
  subst hA
  have e : (⟨b, off, none⟩ : Addr).add j = ⟨b, off + j, none⟩ := by
    unfold Addr.add; split
    · rename_i h; subst h; rfl
    · rfl
  rw [e, hc, ← hu]
  simp [valsI, hj, nth_eq hj]
theorem own_ints {w : World} {base : Nat} {v : Value} {L : List Int} {n : Nat} (h : w.ownsRow base 3 1 v n (valsI L)) (hn : n = L.length) :
    ∃ A c, v = .slice A L.length c ∧ IntsAt w A L ∧ IOK A c L.length ∧ ∀ b off, A = some ⟨b, off, none⟩ → base ≤ b ∧ b < w.heap.size := by
  subst hn
  have hlt := World.ownsRow.lt h
  rcases h.2 with ⟨rfl, h0⟩ | ⟨g, cap, cur, rfl, hg, hh, hnc, hcm, hcs, htk⟩
  · have : L = [] := List.eq_nil_of_length_eq_zero h0
    subst this
    exact ⟨none, 0, rfl, IntsAt.nil _ _, IOK.none0, fun b off e => by cases e⟩
  · refine ⟨some ⟨g, 0, none⟩, cap, rfl, fun k hk => ⟨g, 0, rfl, (hlt g rfl).2, ?_⟩, ⟨hnc, hcm, (fun e => by cases e), .inr (fun a e => by injection e with e; subst e; rfl)⟩, fun b off e => by injection e with e; injection e with e1; subst e1; exact hlt g rfl⟩
    have := World.ownsRow.cellAt h (j := k) (by omega)
    rw [Nat.zero_add, this, List.getElem?_map, nth_eq hk, List.getElem?_eq_getElem hk]
    rfl
/-- append of a slice of numbers onto nil, in a region that draws. -/
theorem step_app_ints {ops : Array Oper} {o : Oper} {a : Act} {K : Act → World → Prop} {Q : Exit → Act → World → Prop} {E : Prop} (W : World) (hgd : o.guard = none) (s x : Operand)
    (ho : o.op = .call { callee := .builtin .append, args := #[s, x], argTypes := #[22, 22] })
    (L : List Int) (B : Option Addr) (c : Nat) (hs : a.eval s = .slice none 0 0) (hx : a.eval x = .slice B L.length c) (hI : IntsAt W B L) (hok : IOK B c L.length) (hl : L.length ≤ 4294967296)
    (h : ∀ A' c' w', w'.ownsRow W.heap.size 3 1 (.slice A' L.length c') L.length (valsI L) → Below W.heap.size W w' → K (a.put o.dst (.slice A' L.length c')) w') :
    if Region.wanted o (yielded ops a.tmps) = true then Oper.wp Tryd.prog o a W K Q else E := by
  have hw : Region.wanted o (yielded ops a.tmps) = true := by simp [Region.wanted, hgd]
  rw [if_pos hw]
  obtain ⟨i0, hi, hz0, hz1, hz2⟩ := info_parts info_int
  rcases B with _ | ad
  · have hc0 := hok.nil rfl
    subst hc0
    have hL0 : L.length = 0 := by have := hok.len; omega
    have hL : L = [] := List.eq_nil_of_length_eq_zero hL0
    subst hL
    have hrun := run_append_owned_none (P := Tryd.prog) (w := W) W.heap.size 22 o.type 3 i0 1 Tryd.underlying22 hi (.slice none 0 0) 0 [] (World.ownsRow_nil _ _ _ _)
    unfold Oper.wp
    simp [execOp, ho, resolve, invoke, builtin, hs, hx, hrun, Result.andThen]
    exact h none 0 W (World.ownsRow_nil _ _ _ _) (Below.refl _ _)
  · have hsp : L.length = 0 ∨ ad.spot = none := hok.spot.elim .inl (fun g => .inr (g ad rfl))
    obtain ⟨v', w', hr, h2, h3, h4, h5⟩ := run_append_own_at (P := Tryd.prog) W W.heap.size 22 o.type 3 i0 _ 1 8 Tryd.underlying22 hi hz0 hz1 hz2 rfl (by omega) (.slice none 0 0) 0 [] (World.ownsRow_nil _ _ _ _) ad L.length c (valsI L) (by simp [valsI]) (hI.news hsp) (valsI_one L) (by unfold maxLen; omega) (by omega) (Nat.le_refl _)
    rw [Nat.zero_add, List.nil_append] at h2
    have hB : Below W.heap.size W w' := ⟨h3.os, h3.tape, h3.output, h3.size, fun k hk => h3.block k hk (by simp [Value.ownBlock])⟩
    obtain ⟨A', c', rfl, -⟩ := own_ints h2 rfl
    unfold Oper.wp execOp
    simp only [ho, resolve, invoke, builtin, Sem.run_bind, Sem.run_pure, Result.andThen_ok, List.map_toArray, List.map_cons, List.map_nil, hs, hx, hr]
    exact h A' c' w' h2 hB

/-! ### Rows of shares of the own, of any numbers -/
structure RowsI (w : World) (base : Nat) (v : Value) (H : List HV) (S : List Shr) : Prop where
  out : HvOwn w base v H
  len : H.length = S.length
  hold : ∀ k, k < S.length → (hvAt H k).1 = hS S k
  row : ∀ k, k < S.length → w.ownsRow base 3 1 (hvAt H k).2 (vS S k).length (valsI (vS S k))
  ne : ∀ i j, i < S.length → j < S.length → i ≠ j → ∀ b, (hvAt H i).2.ownBlock = some b → (hvAt H j).2.ownBlock = some b → False
  no : ∀ i, i < S.length → ∀ b, (hvAt H i).2.ownBlock = some b → v.ownBlock = some b → False
theorem RowsI.below {w w' : World} {base : Nat} {v : Value} {H : List HV} {S : List Shr} (h : RowsI w base v H S) (hb : Below w.heap.size w w') : RowsI w' base v H S :=
  ⟨h.out.below hb, h.len, h.hold, fun k hk => own_below (h.row k hk) hb, h.ne, h.no⟩
theorem RowsI.read {w : World} {base : Nat} {v : Value} {H : List HV} {S : List Shr} (h : RowsI w base v H S) : ∃ A c, v = .slice A S.length c ∧ ShP (fun b => base ≤ b) w A c S := by
  rcases Nat.eq_zero_or_pos S.length with h0 | h0
  · have : S = [] := List.eq_nil_of_length_eq_zero h0
    subst this
    have hH : H = [] := List.eq_nil_of_length_eq_zero h.len
    have ho := h.out
    subst hH
    rcases ho.2 with ⟨rfl, -⟩ | ⟨g, cap, cur, rfl, hg, hh, hnc, hcm, hcs, htk⟩
    · exact ⟨none, 0, rfl, ShP.nil _ _⟩
    · exact ⟨_, cap, rfl, fun k hk => absurd hk (by simp), ⟨Nat.zero_le _, hcm, (fun e => by cases e), .inl rfl⟩⟩
  · obtain ⟨g, c, rfl, hg, hbg, hlc, hcm, hcell, -⟩ := h.out.form (by rw [h.len]; exact h0)
    refine ⟨some ⟨g, 0, none⟩, c, by rw [h.len], fun k hk => ?_, ⟨by rw [← h.len]; exact hlc, hcm, (fun e => by cases e), .inr (fun a e => by injection e with e; subst e; rfl)⟩⟩
    obtain ⟨c1, c2⟩ := hcell k (by rw [h.len]; exact hk)
    obtain ⟨B, c', hv, hN, hS', hb⟩ := own_ints (h.row k hk) rfl
    refine ⟨g, 0, B, c', rfl, hg, hbg, ?_, ?_, ?_⟩
    · rw [Nat.zero_add, c1, h.hold k hk]
    · rw [Nat.zero_add, c2, hv]
    · exact ⟨hN, hS', fun b off e => .inr (hb b off e).1⟩
theorem hS_append {S K : List Shr} {k : Nat} (h : k < S.length) : hS (S ++ K) k = hS S k ∧ vS (S ++ K) k = vS S k := by simp [hS, vS, List.getD_eq_getElem?_getD, List.getElem?_append_left h]
theorem hS_last {S : List Shr} {y : Shr} : hS (S ++ [y]) S.length = y.1 ∧ vS (S ++ [y]) S.length = y.2 := by simp [hS, vS, List.getD_eq_getElem?_getD]
/-- One share more, its values a row made for it. -/
theorem RowsI.more {w w1 w' : World} {base : Nat} {v v' u : Value} {H : List HV} {S : List Shr} (h : RowsI w base v H S) (hb1 : Below w.heap.size w w1) (x : Int) (L : List Int) (hu : w1.ownsRow w.heap.size 3 1 u L.length (valsI L)) (hbs : base ≤ w.heap.size)
    (hown : HvOwn w' base v' (H ++ [(x, u)])) (hg : w1.grownBy w' v.ownBlock) (hv : v'.ownBlock = v.ownBlock ∨ ∀ b, v'.ownBlock = some b → w1.heap.size ≤ b) : RowsI w' base v' (H ++ [(x, u)]) (S ++ [(x, L)]) := by
  have hl := h.len
  have h1 := h.below hb1
  have hcase : ∀ k, k < (S ++ [(x, L)]).length → k < S.length ∨ k = S.length := fun k hk => by simp at hk; omega
  have hub : ∀ b, u.ownBlock = some b → w.heap.size ≤ b ∧ b < w1.heap.size := fun b e => World.ownsRow.lt hu b e
  refine ⟨hown, by simp [hl], fun k hk => ?_, fun k hk => ?_, fun i j hi hj hij b e1 e2 => ?_, fun i hi b e1 e2 => ?_⟩
  · rcases hcase k hk with hk | rfl
    · rw [hvAt_append (by omega), (hS_append hk).1]; exact h.hold k hk
    · rw [← hl, hvAt_last, hl, hS_last.1]
  · rcases hcase k hk with hk | rfl
    · rw [hvAt_append (by omega), (hS_append hk).2]
      refine World.ownsRow.kept (h1.row k hk) hg ?_
      rcases he : (hvAt H k).2.ownBlock with _ | b
      · exact .inl rfl
      · exact .inr (fun e => h.no k hk b he e.symm)
    · rw [← hl, hvAt_last, hl, hS_last.2]
      refine ownsRow_mono (World.ownsRow.kept hu hg ?_) hbs
      rcases he : u.ownBlock with _ | b
      · exact .inl rfl
      · exact .inr (fun e => by have := (World.ownsRow.lt h.out b e.symm).2; have := hub b he; omega)
  · rcases hcase i hi with hi | rfl
    · rcases hcase j hj with hj | rfl
      · rw [hvAt_append (by omega)] at e1 e2; exact h.ne i j hi hj hij b e1 e2
      · rw [hvAt_append (by omega)] at e1
        rw [← hl, hvAt_last] at e2
        have := (World.ownsRow.lt (h.row i hi) b e1).2; have := hub b e2; omega
    · rcases hcase j hj with hj | rfl
      · rw [hvAt_append (by omega)] at e2
        rw [← hl, hvAt_last] at e1
        have := (World.ownsRow.lt (h.row j hj) b e2).2; have := hub b e1; omega
      · exact hij rfl
  · rcases hcase i hi with hi | rfl
    · rw [hvAt_append (by omega)] at e1
      rcases hv with e | e
      · exact h.no i hi b e1 (e ▸ e2)
      · have := (World.ownsRow.lt (h1.row i hi) b e1).2
        have := e b e2; omega
    · rw [← hl, hvAt_last] at e1
      have h3 := hub b e1
      rcases hv with e | e
      · have := (World.ownsRow.lt h.out b (e ▸ e2)).2; omega
      · have := e b e2; omega
/-- append of one share onto a row of the own, in a region that draws. -/
theorem step_app_hv {ops : Array Oper} {o : Oper} {a : Act} {K : Act → World → Prop} {Q : Exit → Act → World → Prop} {E : Prop} (W : World) (hgd : o.guard = none) (s x : Operand)
    (ho : o.op = .call { callee := .builtin .append, args := #[s, x], argTypes := #[31, 31] })
    (w5 : World) (base : Nat) (v : Value) (H : List HV) (y : Int) (u : Value) (hs : a.eval s = v) (hx : a.eval x = .slice (some ⟨w5.heap.size, 0, none⟩) 1 1)
    (hW : W.heap = (w5.alloc (.cells #[.int .i64 y, u] 53)).heap ∧ W.os = w5.os ∧ W.tape = w5.tape ∧ W.output = w5.output) (hu : isSl u = true)
    (hown : HvOwn w5 base v H) (hl : H.length ≤ 1048576) (hbase : base ≤ w5.heap.size)
    (h : ∀ g cap w', HvOwn w' base (.slice (some ⟨g, 0, none⟩) (H.length + 1) cap) (H ++ [(y, u)]) → w5.grownBy w' v.ownBlock → (v.ownBlock = some g ∨ w5.heap.size ≤ g) → Below base w5 w' → K (a.put o.dst (.slice (some ⟨g, 0, none⟩) (H.length + 1) cap)) w') :
    if Region.wanted o (yielded ops a.tmps) = true then Oper.wp Tryd.prog o a W K Q else E := by
  obtain ⟨i0, hi, hz0, hz1, hz2⟩ := info_parts info_share
  have hbW : Below w5.heap.size w5 W := ⟨hW.2.1, hW.2.2.1, hW.2.2.2, by rw [hW.1]; simp, fun k hk => by rw [hW.1]; exact heap_alloc_old w5 _ hk⟩
  have hsz : W.heap.size = w5.heap.size + 1 := by rw [hW.1]; simp
  have hg : W.heap[w5.heap.size]? = some (.cells #[.int .i64 y, u] 53 (0, 0)) := by rw [hW.1]; exact heap_alloc_new w5 _
  refine step_append_lies _ hgd s x 31 ho base 53 i0 _ 2 32 Tryd.underlying31 hi hz0 hz1 hz2 rfl (by omega) v H.length (flatH H) hs (hown.below hbW) ⟨w5.heap.size, 0, none⟩ 1 1 (flatH [(y, u)]) hx (flatH_len [(y, u)]) (fun j z hz => ?_) (flatH_one [(y, u)] (fun k hk => ?_)) (by omega) (by unfold maxLen; omega) (by omega) (by omega) _ rfl ?_
  · have hj : j < 2 := by
      rcases Nat.lt_or_ge j 2 with h1 | h1
      · exact h1
      · rw [List.getElem?_eq_none (by rw [flatH_len]; simp; omega)] at hz; cases hz
    have : j = 0 ∨ j = 1 := by omega
    rcases this with rfl | rfl
    · rw [show (⟨w5.heap.size, 0, none⟩ : Addr).add 0 = ⟨w5.heap.size, 0, none⟩ from rfl, cell_of_row W w5.heap.size 0 _ _ (0, 0) hg, ← hz]; rfl
    · rw [show (⟨w5.heap.size, 0, none⟩ : Addr).add 1 = ⟨w5.heap.size, 1, none⟩ from rfl, cell_of_row W w5.heap.size 1 _ _ (0, 0) hg, ← hz]; rfl
  · have : k = 0 := by simp at hk; omega
    subst this; exact hu
  · intro g cap w' ho' hgr hat _
    have hg5 : w5.grownBy w' v.ownBlock := ⟨hgr.os.trans hbW.os, hgr.tape.trans hbW.tape, hgr.output.trans hbW.output, Nat.le_trans hbW.size hgr.size, fun k hk hne => (hgr.block k (by omega) hne).trans (hbW.block k hk)⟩
    refine h g cap w' ?_ hg5 (hat.elim .inl (fun e => .inr (by omega))) ((Below.refl _ _).grown hg5 hbase (fun k hk => (World.ownsRow.lt hown k hk).1))
    unfold HvOwn; rw [List.length_append, flatH_append]; exact ho'
theorem hSv_take {S : List Shr} {k : Nat} (h : k < S.length) : S.take (k + 1) = S.take k ++ [(hS S k, vS S k)] := by
  rw [List.take_succ_eq_append_getElem h]
  congr 1
  simp [hS, vS, List.getD_eq_getElem?_getD, h]
/-- The call returns a copy: rows of the own. -/
def CopyP (S : List Shr) (w : World) (e : Ending) (w' : World) : Prop := ∃ v H, e = .returned v ∧ RowsI w' w.heap.size v H S ∧ Below w.heap.size w w'

set_option maxRecDepth 100000 in
set_option maxHeartbeats 4000000 in
theorem copy_any {P : Nat → Prop} (A : Option Addr) (c : Nat) (S : List Shr) (w : World) (hS : ShP P w A c S) (hsh : Short S) (hl : S.length ≤ 1000000) :
    Calls Tryd.prog 67 #[.slice A S.length c] w (CopyP S w) := by
  have HS := Lib.hid hS
  have HSH := Lib.hid hsh
  clear hS hsh
  go_enter Tryd.func67, Tryd.ntmps67
  go_wp2_with fail
  go_loopw [3, 8] (fun o i wr => ∃ (k : Nat) (H : List HV), k ≤ S.length ∧ i = .int .i64 k ∧ RowsI wr w.heap.size o H (S.take k) ∧ Below w.heap.size w wr) (fun _ i _ => S.length - (intOf i).toNat)
  case atStart => exact ⟨0, [], Nat.zero_le _, rfl, ⟨HvOwn.nil _ _, rfl, fun k hk => absurd hk (by simp), fun k hk => absurd hk (by simp), fun i j hi => absurd hi (by simp), fun i hi => absurd hi (by simp)⟩, Below.refl _ _⟩
  case round =>
    obtain ⟨k, H, hk, rfl, hR, hbr⟩ := hrel
    have hlk : (S.take k).length = k := by rw [List.length_take]; omega
    obtain ⟨OA, oc, hv, -⟩ := hR.read
    rw [hlk] at hv
    subst hv
    have HLK := Lib.hid hlk
    clear hlk
    have hsz := hbr.size
    have hHl : H.length ≤ 1000000 := by rw [hR.len, List.length_take]; omega
    have HR := Lib.hid hR
    by_cases hlt : k < S.length
    · obtain ⟨b, off, B, c1, rfl, hb, -, h1, h2, h3⟩ := (HS.out.below hbr).at_ k hlt
      have HI := Lib.hid h3
      have hvl := HSH.out k hlt
      have HTK := Lib.hid (hSv_take hlt)
      have hlt' : k = H.length := HLK.out.symm.trans HR.out.len.symm
      generalize hS S k = x at *
      generalize vS S k = L at *
      have HTL := Lib.hid hlt'
      clear h3 hR hlt'
      go_wp2_with fail
      refine gen_world fun w1 hw1 => ?_
      have hb1 : Below wr.heap.size wr w1 := by rw [hw1]; exact below_alloc _ _
      have hsc : ShCell w1 wr.heap.size x (.slice B L.length c1) := by rw [hw1]; exact ShCell.new _ _ rfl
      have s0 := hsc.c0
      have s1 := hsc.c1
      have ls := blk_lt hsc
      have hz1 := hb1.size
      have HI1 := Lib.hid (HI.out.keep (Kept.below hb1))
      clear hw1 hsc h1 h2
      go_region_held3 (fun w' => w'.cell? ⟨wr.heap.size, 0, none⟩ = some (.int .i64 x) ∧ w'.cell? ⟨wr.heap.size, 1, none⟩ = some (.slice B L.length c1)) (first | go_keep | exact ⟨n60, n61⟩)
        (first
          | (refine step_app_ints _ rfl (.const (.slice none 0 0)) (.tmp 16) rfl L B c1 rfl rfl (by exact HI1.out.ints) HI1.out.ok (by omega) ?_; intro VA vc w4 hown4 hb4; have hb4' : Below w1.heap.size w1 w4 := (below_undrew1 hb4); have n40 := (hb4'.cell (p := ⟨wr.heap.size, 0, none⟩) ls).trans s0; have n41 := (hb4'.cell (p := ⟨wr.heap.size, 1, none⟩) ls).trans s1; have l4 : wr.heap.size < w4.heap.size := (Nat.lt_of_lt_of_le ls hb4'.size))
          | (refine step_app_hv _ rfl (.tmp 12) (.tmp 19) rfl w4 w.heap.size (.slice OA k oc) H x (.slice VA L.length vc) rfl rfl ⟨rfl, rfl, rfl, rfl⟩ rfl (HR.out.out.below (below_trans hb1 hb4')) (by omega) (by omega) ?_; intro g6 c6 w6 hown6 hg6 hat6 hb6; have n60 : w6.cell? ⟨wr.heap.size, 0, none⟩ = some (.int .i64 x) := (World.cell?_of_block (w := w4) (hg6.block wr.heap.size l4 (fun e => by have := (World.ownsRow.lt HR.out.out _ e.symm).2; omega))).trans n40; have n61 : w6.cell? ⟨wr.heap.size, 1, none⟩ = some (.slice B L.length c1) := (World.cell?_of_block (w := w4) (hg6.block wr.heap.size l4 (fun e => by have := (World.ownsRow.lt HR.out.out _ e.symm).2; omega))).trans n41))
      all_goals
        have HM := Lib.hid (HR.out.more (below_trans hb1 hb4') x L (ownsRow_mono hown4 (by simp [drew_size]; exact hz1)) hsz hown6 hg6 (hat6.elim (fun e => .inl e.symm) (fun e => .inr (fun b e2 => by have : g6 = b := Option.some.inj (show some g6 = some b from e2); omega))))
        have HB := Lib.hid (hbr.trans (((below_trans hb1 hb4').mono hsz).trans hb6))
        clear hown4 hown6 hg6 hat6
        go_wp2_with fail
        go_roundw
        case rel => exact ⟨k + 1, _, by omega, by go_num, by rw [HTK.out]; exact HM.out, HB.out⟩
        case measure => simp [intOf]; omega
    · obtain rfl : k = S.length := by omega
      rw [List.take_length] at HR
      clear hR
      go_wp2_with fail
      go_ret
      exact ⟨_, _, rfl, HR.out, hbr⟩
end Go.Proofs.YtlhipgejiacklaaDoor
namespace Go.Proofs.YtlhipgejiacklaaDoor
open Go.RowKit

attribute [local go_sem high] sliced_low
/-! ### A plan that dice give -/
theorem results_plan {fn : Func} {t : Tmp} (h : fn.results = #[.cell t 28]) (tmps : Array Value) (w : World) (g : Nat) (hp : tmps.getD t undef = .pointer (some ⟨g, 0, none⟩)) {p n h' : Int} (hX : PlanCell w g p n h') :
    (results fn tmps).run Tryd.prog w = .ok (planV p n h') w :=
  results_cell_row h tmps w g 28 _ (0, 0) _ hp hX Tryd.underlying28 rfl (by kernel_rfl)
theorem PlanCell.frozen {w : World} {x : Nat} {p n h : Int} (H : PlanCell w x p n h) (j : Nat) : w.frozen? ⟨x, j, none⟩ = false := by unfold PlanCell at H; simp [World.frozen?, H]
theorem PlanCell.fill {w : World} {x : Nat} {p n h : Int} (H : PlanCell w x p n h) (p' n' h' : Int) : PlanCell (((w.setCell ⟨x, 0, none⟩ (.int .i64 p')).setCell ⟨x, 1, none⟩ (.int .i64 n')).setCell ⟨x, 2, none⟩ (.int .i64 h')) x p' n' h' := by
  unfold PlanCell at H ⊢; simp [World.setCell, Array.getElem?_modify, H]
theorem grown_set {w w' : World} {D : Nat} (h : w.grownBy w' (some D)) (q : Addr) (v : Value) (hq : w.heap.size ≤ q.block) : w.grownBy (w'.setCell q v) (some D) :=
  ⟨h.os, h.tape, h.output, by simpa [World.setCell] using h.size, fun k hk hne => (Below.heap_setCell w' q v k (by omega)).trans (h.block k hk hne)⟩
structure PlanD (p n h : Nat) : Prop where
  n1 : 1 ≤ n
  nh : n ≤ h
  h7 : h ≤ 7
  hp : h < p
def PlanR (D p : Nat) (w : World) (e : Ending) (w' : World) : Prop := ∃ (n h : Nat) (R' : List Int), e = .returned (planV p n h) ∧ PlanD p n h ∧ DiceAt w' D R' ∧ w.grownBy w' (some D)
set_option maxRecDepth 100000 in
set_option maxHeartbeats 2000000 in
theorem plan_any (D : Nat) (R : List Int) (p : Nat) (w : World) (hd : DiceAt w D R) (hp : 2 ≤ p) (hp2 : p ≤ 2147483648) :
    Calls Tryd.prog 16 #[.pointer (some ⟨D, 0, none⟩), .int .i64 (p : Int)] w (PlanR D p w) := by
  have hlt := hd.lt
  have hpi : (2 : Int) ≤ (p : Int) := by omega
  go_enter Tryd.func16, Tryd.ntmps16
  go_wp2_with fail
  all_goals
    refine (next_nat D R _ _ (hd.alloc _) (by omega) (by omega)).mono ?_
    rintro e w1 ⟨m1, rfl, hm1, hD1, hg1⟩
    have hm7 : m1 < 7 := by omega
    have hmp : m1 + 1 < p := by omega
    have hX1 : PlanCell w1 w.heap.size 0 0 0 := (hg1.block w.heap.size (by simp) (fun e => by injection e with e; omega)).trans (PlanCell.new 0 0 0 rfl)
    have hgw1 := grown_trans (grown_of_below (r := some D) (below_alloc w (.cells #[.int .i64 0, .int .i64 0, .int .i64 0] 28))) hg1
    have HX1 := Lib.hid hX1
    have lx1 := hX1.lt
    clear hX1 hg1 hd hm1
    go_wp2_with fail
    refine (next_nat D _ _ _ hD1 (by omega) (by omega)).mono ?_
    rintro e w2 ⟨m2, rfl, hm2, hD2, hg2⟩
    have hX2 : PlanCell w2 w.heap.size 0 0 0 := (hg2.block w.heap.size lx1 (fun e => by injection e with e; omega)).trans HX1.out
    have x0 := hX2.c0
    have x1 := hX2.c1
    have x2 := hX2.c2
    have f0 := hX2.frozen 0
    have f1 := hX2.frozen 1
    have f2 := hX2.frozen 2
    have HX2 := Lib.hid hX2
    have lx2 := hX2.lt
    have HG := Lib.hid (And.intro hD2 (grown_trans hgw1 hg2))
    have hm2' : m2 ≤ m1 := by omega
    clear hX2 hg2 hD1 hD2 hgw1 hm2
    go_wp2_with fail
    have hfin := HX2.out.fill p (1 + m2) (1 + m1)
    have hgf : w.grownBy (((w2.setCell ⟨w.heap.size, 0, none⟩ (.int .i64 (p : Int))).setCell ⟨w.heap.size, 1, none⟩ (.int .i64 (1 + (m2 : Int)))).setCell ⟨w.heap.size, 2, none⟩ (.int .i64 (1 + (m1 : Int)))) (some D) :=
      grown_set (grown_set (grown_set HG.out.2 _ _ (Nat.le_refl _)) _ _ (Nat.le_refl _)) _ _ (Nat.le_refl _)
    refine bodyPost_ret (results_plan rfl _ _ w.heap.size rfl hfin) rfl ⟨1 + m2, 1 + m1, R.tail.tail, by push_cast; rfl, ⟨by omega, by omega, by omega, by omega⟩, ?_, hgf⟩
    exact ((HG.out.1.setCell _ _ (by simp; omega)).setCell _ _ (by simp; omega)).setCell _ _ (by simp; omega)

/-! ### Another order -/
theorem HvOwn.setHV {w : World} {base g c : Nat} {H : List HV} (h : HvOwn w base (.slice (some ⟨g, 0, none⟩) H.length c) H) (i : Nat) (hi : i < H.length) (x : HV) :
    HvOwn ((w.setCell ⟨g, i * 2, none⟩ (.int .i64 x.1)).setCell ⟨g, i * 2 + 1, none⟩ x.2) base (.slice (some ⟨g, 0, none⟩) H.length c) (H.set i x) := by
  have h1 := h.set0 i hi x.1
  have h1' : HvOwn (w.setCell ⟨g, i * 2, none⟩ (.int .i64 x.1)) base (.slice (some ⟨g, 0, none⟩) (H.set i (x.1, (hvAt H i).2)).length c) (H.set i (x.1, (hvAt H i).2)) := by rw [List.length_set]; exact h1
  have h2 := h1'.set1 i (by simpa using hi) x.2
  rw [hvAt_set_same _ _ _ hi, List.set_set, List.length_set] at h2
  exact h2
def swapH (H : List HV) (i k : Nat) : List HV := (H.set i (hvAt H k)).set k (hvAt H i)
def swapS (S : List Shr) (i k : Nat) : List Shr := (S.set i (hS S k, vS S k)).set k (hS S i, vS S i)
theorem swapH_len (H : List HV) (i k : Nat) : (swapH H i k).length = H.length := by simp [swapH]
theorem swapS_len (S : List Shr) (i k : Nat) : (swapS S i k).length = S.length := by simp [swapS]
theorem shr_at {S : List Shr} {k : Nat} (h : k < S.length) : S[k] = (hS S k, vS S k) := by simp [hS, vS, List.getD_eq_getElem?_getD, h]
theorem swapS_perm {S : List Shr} {i k : Nat} (hi : i < S.length) (hk : k < S.length) : (swapS S i k).Perm S := by
  unfold swapS
  rw [← shr_at hk, ← shr_at hi]
  exact List.set_set_perm hi hk
def swi (i k j : Nat) : Nat := if j = k then i else if j = i then k else j
theorem swapH_at {H : List HV} {i k j : Nat} (hi : i < H.length) (hk : k < H.length) : hvAt (swapH H i k) j = hvAt H (swi i k j) := by
  unfold swapH swi
  by_cases h1 : j = k
  · subst h1; rw [if_pos rfl, hvAt_set_same _ _ _ (by simpa using hk)]
  · rw [if_neg h1, hvAt_set_other _ _ _ _ (Ne.symm h1)]
    by_cases h2 : j = i
    · subst h2; rw [if_pos rfl, hvAt_set_same _ _ _ hi]
    · rw [if_neg h2, hvAt_set_other _ _ _ _ (Ne.symm h2)]
theorem swapS_at {S : List Shr} {i k j : Nat} (hi : i < S.length) (hk : k < S.length) : hS (swapS S i k) j = hS S (swi i k j) ∧ vS (swapS S i k) j = vS S (swi i k j) := by
  unfold swapS swi
  by_cases h1 : j = k
  · subst h1; rw [if_pos rfl]; simp [hS, vS, List.getD_eq_getElem?_getD, hk]
  · rw [if_neg h1]
    by_cases h2 : j = i
    · subst h2
      rw [if_pos rfl]
      have e1 : ((S.set j (hS S k, vS S k)).set k (hS S j, vS S j))[j]? = some (hS S k, vS S k) := by rw [List.getElem?_set_ne (Ne.symm h1)]; simp [hi]
      constructor
      · show (((S.set j (hS S k, vS S k)).set k (hS S j, vS S j)).getD j (0, [])).1 = _
        rw [List.getD_eq_getElem?_getD, e1]; rfl
      · show (((S.set j (hS S k, vS S k)).set k (hS S j, vS S j)).getD j (0, [])).2 = _
        rw [List.getD_eq_getElem?_getD, e1]; rfl
    · rw [if_neg h2]; simp [hS, vS, List.getD_eq_getElem?_getD, List.getElem?_set_ne (Ne.symm h1), List.getElem?_set_ne (Ne.symm h2)]
theorem swi_lt {i k j n : Nat} (hi : i < n) (hk : k < n) (hj : j < n) : swi i k j < n := by unfold swi; split <;> (try split) <;> assumption
theorem swi_inj {i k a b : Nat} (h : swi i k a = swi i k b) : a = b := by unfold swi at h; split at h <;> split at h <;> (try split at h) <;> (try split at h) <;> omega
/-- Two shares have changed places. -/
theorem RowsI.swap {w : World} {base g c : Nat} {H : List HV} {S : List Shr} (h : RowsI w base (.slice (some ⟨g, 0, none⟩) H.length c) H S) {i k : Nat} (hi : i < S.length) (hk : k < S.length) :
    RowsI ((((w.setCell ⟨g, i * 2, none⟩ (.int .i64 (hvAt H k).1)).setCell ⟨g, i * 2 + 1, none⟩ (hvAt H k).2).setCell ⟨g, k * 2, none⟩ (.int .i64 (hvAt H i).1)).setCell ⟨g, k * 2 + 1, none⟩ (hvAt H i).2) base (.slice (some ⟨g, 0, none⟩) H.length c) (swapH H i k) (swapS S i k) := by
  have hl := h.len
  have h1 := h.out.setHV i (by omega) (hvAt H k)
  have h1' : HvOwn ((w.setCell ⟨g, i * 2, none⟩ (.int .i64 (hvAt H k).1)).setCell ⟨g, i * 2 + 1, none⟩ (hvAt H k).2) base (.slice (some ⟨g, 0, none⟩) (H.set i (hvAt H k)).length c) (H.set i (hvAt H k)) := by rw [List.length_set]; exact h1
  have h2 := h1'.setHV k (by rw [List.length_set]; omega) (hvAt H i)
  rw [List.length_set] at h2
  have hHi : i < H.length := by omega
  have hHk : k < H.length := by omega
  refine ⟨h2, by rw [swapH_len, swapS_len, hl], fun j hj => ?_, fun j hj => ?_, fun a b ha hb hab x e1 e2 => ?_, fun a ha x e1 e2 => ?_⟩
  · rw [swapS_len] at hj
    rw [swapH_at hHi hHk, (swapS_at hi hk).1]; exact h.hold _ (swi_lt hi hk hj)
  · rw [swapS_len] at hj
    have hne : ∀ b, (hvAt H (swi i k j)).2.ownBlock = some b → b ≠ g := fun b e e2 => h.no _ (swi_lt hi hk hj) b e (by rw [e2]; rfl)
    rw [swapH_at hHi hHk, (swapS_at hi hk).2]
    exact own_other (own_other (own_other (own_other (h.row _ (swi_lt hi hk hj)) _ _ hne) _ _ hne) _ _ hne) _ _ hne
  · rw [swapS_len] at ha hb
    rw [swapH_at hHi hHk] at e1 e2
    exact h.ne _ _ (swi_lt hi hk ha) (swi_lt hi hk hb) (fun e => hab (swi_inj e)) x e1 e2
  · rw [swapS_len] at ha
    rw [swapH_at hHi hHk] at e1
    exact h.no _ (swi_lt hi hk ha) x e1 e2
def TurnP (D : Nat) (S : List Shr) (least : Nat) (w : World) (e : Ending) (w' : World) : Prop :=
  ∃ (A : Option Addr) (c m : Nat) (Q : List Shr) (R' : List Int), e = .returned (.slice A m c) ∧ Q.Perm S ∧ m ≤ S.length ∧ (least ≤ m ∨ m = S.length) ∧ ShP (· ≠ D) w' A c (Q.take m) ∧ DiceAt w' D R' ∧ w.grownBy w' (some D)
theorem RowsI.drew {w : World} {base : Nat} {v : Value} {H : List HV} {S : List Shr} (h : RowsI w base v H S) : RowsI w.drew base v H S := ⟨h.out, h.len, h.hold, h.row, h.ne, h.no⟩
theorem grown_drew {w w' : World} {r : Option Nat} (h : w.grownBy w' r) : w.grownBy w'.drew r := ⟨h.os, h.tape, h.output, h.size, h.block⟩
theorem grown4 {w w' : World} {D g a b c d : Nat} {v1 v2 v3 v4 : Value} (h : w.grownBy w' (some D)) (hg : w.heap.size ≤ g) : w.grownBy ((((w'.setCell ⟨g, a, none⟩ v1).setCell ⟨g, b, none⟩ v2).setCell ⟨g, c, none⟩ v3).setCell ⟨g, d, none⟩ v4).drew (some D) :=
  grown_drew (grown_set (grown_set (grown_set (grown_set h ⟨g, a, none⟩ v1 hg) ⟨g, b, none⟩ v2 hg) ⟨g, c, none⟩ v3 hg) ⟨g, d, none⟩ v4 hg)
theorem dice4 {w : World} {D g a b c d : Nat} {R : List Int} {v1 v2 v3 v4 : Value} (h : DiceAt w D R) (hg : D < g) : DiceAt ((((w.setCell ⟨g, a, none⟩ v1).setCell ⟨g, b, none⟩ v2).setCell ⟨g, c, none⟩ v3).setCell ⟨g, d, none⟩ v4).drew D R :=
  DiceAt.drewN ((((h.setCell ⟨g, a, none⟩ v1 hg).setCell ⟨g, b, none⟩ v2 hg).setCell ⟨g, c, none⟩ v3 hg).setCell ⟨g, d, none⟩ v4 hg) 1
theorem RowsI.grown {w w' : World} {base D : Nat} {v : Value} {H : List HV} {S : List Shr} (h : RowsI w base v H S) (hg : w.grownBy w' (some D)) (hD : D < base) : RowsI w' base v H S := by
  have hk : ∀ {e : TypeId} {size : Nat} {u : Value} {n : Nat} {xs : List Value}, w.ownsRow base e size u n xs → w'.ownsRow base e size u n xs := fun {e size u n xs} ho => World.ownsRow.kept ho hg (by
    rcases he : u.ownBlock with _ | b
    · exact .inl rfl
    · exact .inr (fun e2 => by have := (World.ownsRow.lt ho b he).1; injection e2 with e2; omega))
  exact ⟨hk h.out, h.len, h.hold, fun k hlt => hk (h.row k hlt), h.ne, h.no⟩
theorem swap_id {w : World} {base : Nat} {v : Value} {H : List HV} {S : List Shr} (h : RowsI w base v H S) {i k : Nat} (hi : i < S.length) : ∃ g c B1 c1 B2 c2, k < S.length → v = .slice (some ⟨g, 0, none⟩) H.length c ∧ g < w.heap.size ∧ base ≤ g ∧ (hvAt H i).2 = .slice B1 (vS S i).length c1 ∧ (hvAt H k).2 = .slice B2 (vS S k).length c2 ∧
      w.cell? ⟨g, i * 2, none⟩ = some (.int .i64 (hS S i)) ∧ w.cell? ⟨g, i * 2 + 1, none⟩ = some (.slice B1 (vS S i).length c1) ∧ w.cell? ⟨g, k * 2, none⟩ = some (.int .i64 (hS S k)) ∧ w.cell? ⟨g, k * 2 + 1, none⟩ = some (.slice B2 (vS S k).length c2) ∧ ∀ j, w.frozen? ⟨g, j, none⟩ = false := by
  obtain ⟨g, c, hv, hg, hbg, -, -, hcell, hfr⟩ := h.out.form (by rw [h.len]; omega)
  obtain ⟨B1, c1, hv1, -⟩ := own_ints (h.row i hi) rfl
  obtain ⟨a1, a2⟩ := hcell i (by rw [h.len]; exact hi)
  by_cases hk : k < S.length
  · obtain ⟨B2, c2, hv2, -⟩ := own_ints (h.row k hk) rfl
    obtain ⟨a3, a4⟩ := hcell k (by rw [h.len]; exact hk)
    exact ⟨g, c, B1, c1, B2, c2, fun _ => ⟨hv, hg, hbg, hv1, hv2, by rw [a1, h.hold i hi], by rw [a2, hv1], by rw [a3, h.hold k hk], by rw [a4, hv2], hfr⟩⟩
  · exact ⟨g, c, B1, c1, none, 0, fun e => absurd e hk⟩
set_option maxRecDepth 100000 in
set_option maxHeartbeats 4000000 in
theorem turn_any {P : Nat → Prop} (D : Nat) (R : List Int) (A : Option Addr) (c : Nat) (S : List Shr) (least : Nat) (w : World) (hd : DiceAt w D R) (hS : ShP P w A c S) (hsh : Short S) (hl : S.length ≤ 100000) (hle : least ≤ 100000) :
    Calls Tryd.prog 28 #[.pointer (some ⟨D, 0, none⟩), .slice A S.length c, .int .i64 (least : Int)] w (TurnP D S least w) := by
  have hDlt := hd.lt
  have HCP := Lib.hid (copy_any A c S w hS hsh (by omega))
  clear hS hsh
  go_enter Tryd.func28, Tryd.ntmps28
  go_wp2_with fail
  refine HCP.out.mono ?_
  rintro e w1 ⟨v, H, rfl, hR, hb1⟩
  obtain ⟨OA, oc, rfl, -⟩ := hR.read
  have HR := Lib.hid hR
  have HB1 := Lib.hid hb1
  have hD1 := hd.below hb1
  have hg1 := grown_of_below (r := some D) hb1
  clear hR hb1 HCP
  go_wp2_with fail
  go_loopw [14] (fun i wr => ∃ (k : Nat) (Q : List Shr) (H : List HV) (R : List Int), k ≤ S.length ∧ i = .int .i64 k ∧ Q.length = S.length ∧ Q.Perm S ∧ RowsI wr w.heap.size (.slice OA S.length oc) H Q ∧ DiceAt wr D R ∧ w.grownBy wr (some D)) (fun i _ => S.length - (intOf i).toNat)
  case atStart => exact ⟨0, S, H, R, Nat.zero_le _, rfl, rfl, List.Perm.refl _, HR.out, hD1, hg1⟩
  case round =>
    obtain ⟨i, Q, H2, R2, hi, rfl, hQl, hperm, hR2, hDr, hgr⟩ := hrel
    have HQL := Lib.hid hQl
    have HPM := Lib.hid hperm
    have HR2 := Lib.hid hR2
    have hQ1 : Q.length ≤ S.length := by omega
    have hQ2 : S.length ≤ Q.length := by omega
    have hgs := hgr.size
    clear hQl hperm hR2 hD1 hg1 hd
    by_cases hlt : i < S.length
    · go_wp2_with fail
      refine (next_nat D R2 _ _ hDr (by omega) (by omega)).mono ?_
      rintro e w3 ⟨k, rfl, hk, hD3, hg3⟩
      have hki : k ≤ i := by omega
      have hR3 : RowsI w3 w.heap.size (.slice OA S.length oc) H2 Q := HR2.out.grown hg3 hDlt
      have hgw3 := grown_trans hgr hg3
      have HR3 := Lib.hid hR3
      have hz3 := hg3.size
      obtain ⟨g, c3, B1, c1, B2, c2, hall⟩ := swap_id (k := k) hR3 (show i < Q.length by omega)
      obtain ⟨hv, hg, hbg, hv1, hv2, a1, a2, a3, a4, hfr⟩ := hall (by omega)
      injection hv with hv3 hv4 hv5
      subst hv3; subst hv5
      have f1 := hfr (i * 2)
      have f2 := hfr (i * 2 + 1)
      have f3 := hfr (k * 2)
      have f4 := hfr (k * 2 + 1)
      have HV := Lib.hid (And.intro hv1 (And.intro hv2 hv4))
      have HH := Lib.hid (And.intro (HR3.out.hold i (by omega)) (HR3.out.hold k (by omega)))
      have HSW := Lib.hid (swapS_perm (S := Q) (i := i) (k := k) (by omega) (by omega))
      have HSL := Lib.hid (swapS_len Q i k)
      have hR3d : RowsI w3 w.heap.size (.slice (some ⟨g, 0, none⟩) H2.length oc) H2 Q := by rw [← hv4]; exact hR3
      have hsw := hR3d.swap (i := i) (k := k) (by omega) (by omega)
      rw [hv1, hv2, HR3.out.hold i (by omega), HR3.out.hold k (by omega), ← hv4] at hsw
      have HSWAP := Lib.hid hsw.drew
      have hsw1 := hR3d.swap (i := i) (k := i) (by omega) (by omega)
      rw [hv1, HR3.out.hold i (by omega), ← hv4] at hsw1
      have HSWAP1 := Lib.hid hsw1.drew
      clear hsw hsw1 hR3d
      have n1 : (0 : Int) ≤ (i : Int) := by omega
      have n2 : (i : Int) < (S.length : Int) := by omega
      have n3 : (0 : Int) ≤ (k : Int) := by omega
      have n4 : (k : Int) < (S.length : Int) := by omega
      generalize hS Q i = x1 at *
      generalize vS Q i = L1 at *
      generalize hS Q k = x2 at *
      generalize vS Q k = L2 at *
      clear hv1 hv2 hv4 hfr hall hDr hgr hR3 hg3
      go_wp2_with fail
      by_cases hik : i = k
      · subst hik
        go_region_law (fail)
        all_goals
          go_wp2_with fail
          go_roundw
          case rel => exact ⟨i + 1, swapS Q i i, swapH H2 i i, R2.tail, by omega, by go_num, HSL.out.trans HQL.out, HSW.out.trans HPM.out, HSWAP1.out, dice4 hD3 (by omega), grown4 hgw3 hbg⟩
          case measure => simp [intOf]; omega
      · have q1 : ¬ i * 2 = k * 2 := by omega
        have q2 : ¬ i * 2 + 1 = k * 2 := by omega
        have q3 : ¬ i * 2 = k * 2 + 1 := by omega
        have q4 : ¬ k * 2 = i * 2 := by omega
        have q5 : ¬ k * 2 + 1 = i * 2 := by omega
        have q6 : ¬ k * 2 = i * 2 + 1 := by omega
        go_region_law (fail)
        all_goals
          go_wp2_with fail
          go_roundw
          case rel => exact ⟨i + 1, swapS Q i k, swapH H2 i k, R2.tail, by omega, by go_num, HSL.out.trans HQL.out, HSW.out.trans HPM.out, HSWAP.out, dice4 hD3 (by omega), grown4 hgw3 hbg⟩
          case measure => simp [intOf]; omega
    · obtain rfl : i = S.length := by omega
      obtain ⟨_, _, hv, hX⟩ := HR2.out.read
      injection hv with hv1 hv2 hv3
      subst hv1; subst hv3
      have HX := Lib.hid (show ShP (· ≠ D) wr OA oc Q from hX.mono fun b _ hb => by omega)
      have hcap := hX.ok.len
      clear hX hv2
      by_cases hq : S.length ≤ least
      · have t1 : decide ((S.length : Int) ≤ (least : Int)) = true := decide_eq_true (by omega)
        have t2 : decide (S.length ≤ least) = true := decide_eq_true hq
        go_wp2_with fail
        go_ret
        exact ⟨OA, oc, S.length, Q, R2, rfl, HPM.out, Nat.le_refl _, .inr rfl, by rw [List.take_of_length_le hQ1]; exact HX.out, hDr, hgr⟩
      · have t1 : decide ((S.length : Int) ≤ (least : Int)) = false := decide_eq_false (by omega)
        have t2 : decide (S.length ≤ least) = false := decide_eq_false hq
        go_wp2_with fail
        refine (next_nat D R2 _ _ hDr (by omega) (by omega)).mono ?_
        rintro e w3 ⟨m, rfl, hm, hD3, hg3⟩
        have n1 : (0 : Int) ≤ (least : Int) + (m : Int) := by omega
        have n2 : (least : Int) + (m : Int) ≤ (oc : Int) := by omega
        have n3 : ((least : Int) + (m : Int)).toNat = least + m := by omega
        have HX3 := Lib.hid (HX.out.keep (Kept.mv hg3))
        have HG3 := Lib.hid (And.intro hD3 (grown_trans hgr hg3))
        have hml : least + m ≤ S.length := by omega
        clear hD3 hg3 hDr hgr hm
        go_wp2_with fail
        go_ret
        exact ⟨OA, oc, least + m, Q, R2.tail, rfl, HPM.out, hml, .inl (by omega), HX3.out.take _, HG3.out⟩
end Go.Proofs.YtlhipgejiacklaaDoor
namespace Go.Proofs.YtlhipgejiacklaaDoor
open Go.RowKit

attribute [local go_sem high] sliced_low
/-- All shares are the values of the polynomials F at their holders. -/
structure OnP (p h m : Nat) (F : Nat → List Nat) (N : List ShN) : Prop where
  on : ∀ s ∈ N, 1 ≤ s.1 ∧ s.1 ≤ h ∧ s.2 = (List.range m).map fun i => evN p (F i) s.1
  nd : (hsN N).Nodup
theorem mem_at {N : List ShN} {k : Nat} (hk : k < N.length) : (hN N k, vN N k) ∈ N := by rw [← getD_at hk]; exact List.getElem_mem hk
theorem OnP.at_ {p h m : Nat} {F : Nat → List Nat} {N : List ShN} (H : OnP p h m F N) {k : Nat} (hk : k < N.length) : 1 ≤ hN N k ∧ hN N k ≤ h ∧ vN N k = (List.range m).map fun i => evN p (F i) (hN N k) := H.on _ (mem_at hk)
theorem OnP.good {p h m : Nat} {F : Nat → List Nat} {N : List ShN} (H : OnP p h m F N) (hp : 1 ≤ p) (hm : m ≤ 2048) : GoodN p h N := by
  have hl : ∀ k, k < N.length → (vN N k).length = m := fun k hk => by rw [(H.at_ hk).2.2]; simp
  refine ⟨fun k hk => ⟨(H.at_ hk).1, (H.at_ hk).2.1, fun x hx => ?_⟩, fun k hk => by rw [hl k hk, hl 0 (by omega)], fun k hk => by rw [hl k hk]; exact hm, H.nd⟩
  rw [(H.at_ hk).2.2] at hx
  obtain ⟨i, -, rfl⟩ := List.mem_map.1 hx
  exact evN_lt hp _ _
theorem OnP.sub {p h m : Nat} {F : Nat → List Nat} {N M : List ShN} (H : OnP p h m F N) (hs : M.Sublist N) : OnP p h m F M := ⟨fun s h => H.on s (hs.subset h), H.nd.sublist (hs.map _)⟩
theorem OnP.take {p h m : Nat} {F : Nat → List Nat} {N : List ShN} (H : OnP p h m F N) (n : Nat) : OnP p h m F (N.take n) := H.sub (List.take_sublist _ _)
theorem OnP.perm {p h m : Nat} {F : Nat → List Nat} {N M : List ShN} (H : OnP p h m F N) (hs : M.Perm N) : OnP p h m F M := ⟨fun s h => H.on s (hs.subset h), (hs.map Prod.fst).nodup_iff.2 H.nd⟩
theorem OnP.val {p h m : Nat} {F : Nat → List Nat} {N : List ShN} (H : OnP p h m F N) {k i : Nat} (hk : k < N.length) (hi : i < m) : nthN (vN N k) i = evN p (F i) (hN N k) := by
  rw [(H.at_ hk).2.2, nthN_eq (by simpa using hi)]; simp
theorem OnP.weigh {p h m n : Nat} {F : Nat → List Nat} {N : List ShN} (H : OnP p h m F N) (hp : PrimeN p) (hh : h < p) (hn : n ≤ N.length) (hF : ∀ i, i < m → (F i).length ≤ n) {i : Nat} (hi : i < m) (x : Nat) :
    wgN p (wsN p (hsN (N.take n)) x) (colN (N.take n) i) n = evN p (F i) x := by
  have hT := H.take n
  have hl : (N.take n).length = n := by rw [List.length_take]; omega
  have hlt : ∀ y ∈ hsN (N.take n), y < p := fun y hy => by
    obtain ⟨s, hs, rfl⟩ := List.mem_map.1 hy
    have := hT.on s hs; omega
  have := interpN (L := F i) (ys := colN (N.take n) i) hp hlt hT.nd (by rw [hsN_len, hl]; exact hF i hi) (fun k hk => by
    rw [hsN_len] at hk
    rw [colN_nth hk, hsN_nth hk, hT.val hk hi]) x
  rw [hsN_len, hl] at this; exact this
theorem OnP.comb {p h m n : Nat} {F : Nat → List Nat} {N : List ShN} (H : OnP p h m F N) (hp : PrimeN p) (hh : h < p) (h1 : 1 ≤ n) (hn : n ≤ N.length) (hF : ∀ i, i < m → (F i).length ≤ n) :
    combN p n N = (List.range m).map fun i => evN p (F i) 0 := by
  have h0 : (vN N 0).length = m := by rw [(H.at_ (show 0 < N.length by omega)).2.2]; simp
  unfold combN
  rw [h0]
  refine List.map_congr_left fun i hi => ?_
  exact H.weigh hp hh hn hF (List.mem_range.1 hi) 0
theorem OnP.fit {p h m n : Nat} {F : Nat → List Nat} {N : List ShN} (H : OnP p h m F N) (hp : PrimeN p) (hh : h < p) (hn : n ≤ N.length) (hF : ∀ i, i < m → (F i).length ≤ n) : FitP p n N := fun k _ hk2 i hi => by
  have h0 : (vN N 0).length = m := by rw [(H.at_ (show 0 < N.length by omega)).2.2]; simp
  rw [h0] at hi
  unfold fitAt
  rw [H.weigh hp hh hn hF hi, H.val hk2 hi]

/-! ### What the functions say of such shares -/
theorem plB_true {p n h : Nat} (h1 : 1 ≤ n) (h2 : n ≤ h) (h3 : h ≤ 16) (h4 : h < p) (hv : validI (p : Int) = true) : plB p n h = true := (plB_yes ⟨by omega, by omega, by omega, by omega, hv⟩).symm
theorem cm_on {p n h m : Nat} {F : Nat → List Nat} {N : List ShN} (H : OnP p h m F N) (hp : PrimeN p) (hpl : plB p n h = true) (hm : m ≤ 2048) (hn : n ≤ N.length) (hF : ∀ i, i < m → (F i).length ≤ n) :
    cmE p n h (shL N) = 0 ∧ cmL p n h (shL N) = (List.range m).map fun i => evN p (F i) 0 := by
  obtain ⟨l1, l2, l3, l4, -⟩ := of_decide_eq_true hpl
  have hg := (gdB_yes (gd_back (H.good (by omega) hm))).symm
  have he := (cmE_ok hpl hg (by rw [shL_len]; omega)).symm
  exact ⟨he, by rw [cmL_ok he, H.comb hp (by omega) (by omega) hn hF]⟩
theorem cm_few {p n h m : Nat} {F : Nat → List Nat} {N : List ShN} (H : OnP p h m F N) (hpl : plB p n h = true) (hm : m ≤ 2048) (hn : N.length < n) : cmE p n h (shL N) = 5 := by
  obtain ⟨l1, l2, l3, l4, -⟩ := of_decide_eq_true hpl
  exact (cmE_few hpl (gdB_yes (gd_back (H.good (by omega) hm))).symm (by rw [shL_len]; omega)).symm
theorem ft_on {p n h m : Nat} {F : Nat → List Nat} {N : List ShN} (H : OnP p h m F N) (hp : PrimeN p) (hpl : plB p n h = true) (hm : m ≤ 2048) (hF : ∀ i, i < m → (F i).length ≤ n) : ftB p n h (shL N) = true := by
  obtain ⟨l1, l2, l3, l4, -⟩ := of_decide_eq_true hpl
  have hg := (gdB_yes (gd_back (H.good (by omega) hm))).symm
  by_cases hn : (N.length : Int) ≤ n
  · exact (ftB_few hpl hg (by rw [shL_len]; exact hn)).symm
  · have := ftB_more hpl hg (by rw [shL_len]; exact hn)
    rw [natL_shL, Int.toNat_natCast, Int.toNat_natCast] at this
    exact (ftB_yes this (H.fit hp (by omega) (by omega) hF)).symm
/-- Another order of such shares. -/
theorem on_perm {p h m : Nat} {F : Nat → List Nat} {N : List ShN} (H : OnP p h m F N) {Q : List Shr} (hq : Q.Perm (shL N)) : ∃ M, Q = shL M ∧ M.length = N.length ∧ OnP p h m F M := by
  have h1 : (natL Q).Perm N := by have := hq.map natS; rwa [show (shL N).map natS = N from natL_shL N] at this
  have h2 : Q = shL (natL Q) := by
    simp only [shL, natL, List.map_map]
    conv => lhs; rw [← List.map_id Q]
    refine List.map_congr_left fun s hs => ?_
    obtain ⟨t, -, rfl⟩ := List.mem_map.1 (hq.subset hs)
    simp only [Function.comp, natS, shI, Int.toNat_natCast, toNat_ofN, id]
  exact ⟨natL Q, h2, h1.length_eq, H.perm h1⟩

/-! ### Dealt shares -/
theorem evN_at0 {p : Nat} {L : List Nat} (h : ∀ x ∈ L, x < p) (hp : 1 ≤ p) : evN p L 0 = nthN L 0 := by
  cases L with
  | nil => rfl
  | cons c L =>
    have hc := h c (by simp)
    simp only [evN, nthN, List.getD_cons_zero, fmul, fadd, Nat.mul_zero, Nat.zero_mod, Nat.zero_add]
    exact Nat.mod_eq_of_lt hc
theorem polN_zero {sec ran : List Nat} {k i : Nat} : nthN (polN sec ran k i) 0 = nthN sec i := by simp [polN, nthN]
theorem deal_on {p n h : Nat} {sec ran : List Nat} : OnP p h sec.length (fun i => polN sec ran (n - 1) i) (dealN p n h sec ran) := by
  refine ⟨fun s hs => ?_, ?_⟩
  · obtain ⟨j, hj, rfl⟩ := List.mem_map.1 hs
    have := List.mem_range.1 hj
    exact ⟨by simp, by simp only; omega, rfl⟩
  · refine nodup_hsN fun k hk j hj => ?_
    unfold dealN at hk ⊢
    rw [dealtT_len] at hk
    rw [(dealtT_at hk).1, (dealtT_at (show j < h by omega)).1]; omega
theorem deal_len (p n h : Nat) (sec ran : List Nat) : (dealN p n h sec ran).length = h := dealtT_len _ _ _ _ _ _
theorem deal_sec {p n : Nat} {sec ran : List Nat} (hp : 1 ≤ p) (hs : ∀ x ∈ sec, x < p) (hr : ∀ x ∈ ran, x < p) : (List.range sec.length).map (fun i => evN p (polN sec ran (n - 1) i) 0) = sec := by
  refine extN (by simp) fun k hk => ?_
  simp only [List.length_map, List.length_range] at hk
  rw [nthN_eq (by simpa using hk)]
  simp only [List.getElem_map, List.getElem_range]
  rw [evN_at0 (polN_lt hp hs hr _ _) hp, polN_zero]
theorem polN_le {sec ran : List Nat} {n i : Nat} (h1 : 1 ≤ n) : (polN sec ran (n - 1) i).length ≤ n := Nat.le_trans polN_len (by omega)
theorem dl_nats {p n h : Nat} {sec ran : List Nat} (hpl : plB p n h = true) (hm : sec.length ≤ 2048) (hs : ∀ x ∈ sec, x < p) (hr : ∀ x ∈ ran, x < p) (hl : ran.length = sec.length * (n - 1)) :
    dlE p n h (ofN sec) (ofN ran) = 0 ∧ dlL p n h (ofN sec) (ofN ran) = dealN p n h sec ran := by
  obtain ⟨l1, l2, l3, l4, -⟩ := of_decide_eq_true hpl
  have he : dlE p n h (ofN sec) (ofN ran) = 0 := dlE_ok hpl (by rw [len_ofN]; omega) ⟨nat_inside hs, nat_inside hr, by
    rw [len_ofN, len_ofN, hl, show ((n : Int) - 1) = ((n - 1 : Nat) : Int) by omega]; push_cast; rfl⟩
  exact ⟨he, by unfold dlL; rw [if_pos he, toNat_ofN, toNat_ofN, Int.toNat_natCast, Int.toNat_natCast, Int.toNat_natCast]⟩
theorem deal_nats {p n h : Nat} {A B : Option Addr} {ca cb : Nat} {sec ran : List Nat} {w : World} (hv : primeV p = validI p) (hB : Bases w) (hA : NatsAt w A sec) (hR : NatsAt w B ran) (hok : SlOK B cb ran)
    (hpl : plB p n h = true) (hm : sec.length ≤ 2048) (hs : ∀ x ∈ sec, x < p) (hr : ∀ x ∈ ran, x < p) (hl : ran.length = sec.length * (n - 1)) (hl2 : ran.length ≤ 1048576) :
    Calls Tryd.prog 50 #[planV p n h, .slice A sec.length ca, .slice B ran.length cb] w (ShErr (shL (dealN p n h sec ran)) 0 w) := by
  obtain ⟨e1, e2⟩ := dl_nats hpl hm hs hr hl
  have := dealS_any p n h A B ca cb (ofN sec) (ofN ran) w hv hB hA.ints hR.ints (by rw [len_ofN]; exact hok.iok) (by rw [len_ofN]; omega) (by rw [len_ofN]; exact hl2)
  rw [e1, e2, len_ofN, len_ofN] at this
  exact this

theorem prime_valid {p : Nat} (hp : PrimeN p) (h : p ≤ 1073741824) : primeV p = validI p ∧ validI (p : Int) = true := by
  have h1 := validI_prime hp h
  exact ⟨by rw [h1]; exact (primeV_true h hp).symm, h1⟩
theorem deal_awake : dealN 7 2 3 [3] [1] = [(1, [4]), (2, [5]), (3, [6])] := by decide +kernel
end Go.Proofs.YtlhipgejiacklaaDoor
namespace Go.Proofs.YtlhipgejiacklaaDoor
open Go.RowKit

theorem PlanCell.mv {w w' : World} {x D : Nat} {p n h : Int} (H : PlanCell w x p n h) (hg : w.grownBy w' (some D)) (hne : x ≠ D) : PlanCell w' x p n h := H.keep (hg.block x H.lt (fun e => by injection e with e; exact hne e))
theorem grown_undrew {w w' : World} {r : Option Nat} (h : w.drew.grownBy w' r) : w.grownBy w' r := ⟨h.os, h.tape, h.output, h.size, h.block⟩
theorem Env.bases {w w' : World} {D : Nat} {R : List Int} (h : Env w w' D R) (hB : Bases w) : Bases w' := hB.below h.below hB.1
theorem ShErr.open_ {S : List Shr} {er : Int} {w w' : World} {e : Ending} (h : ShErr S er w e w') : ∃ A c, e = .returned (.tuple #[.slice A S.length c, .int .i64 er]) ∧ ShP (fun b => w.heap.size ≤ b) w' A c S ∧ Below w.heap.size w w' := h
theorem ShP.away {w w' : World} {D : Nat} {A : Option Addr} {c : Nat} {S : List Shr} (h : ShP (fun b => w.heap.size ≤ b) w' A c S) (hD : D < w.heap.size) : ShP (· ≠ D) w' A c S := h.mono fun b _ hb => by omega
theorem short_shL {N : List ShN} (h : ∀ k, k < N.length → (vN N k).length ≤ 1048576) : Short (shL N) := fun k hk => by
  rw [shL_len] at hk
  rw [vS_shL, len_ofN]; exact h k hk
theorem OnP.short {p h m : Nat} {F : Nat → List Nat} {N : List ShN} (H : OnP p h m F N) (hm : m ≤ 1048576) : Short (shL N) := short_shL fun k hk => by rw [(H.at_ hk).2.2]; simp; exact hm
end Go.Proofs.YtlhipgejiacklaaDoor
namespace Go.Proofs.YtlhipgejiacklaaDoor
open Go.RowKit

structure PlanN (p n h : Nat) : Prop where
  pr : PrimeN p
  pv : primeV p = validI p
  pl : plB p n h = true
  n1 : 1 ≤ n
  nh : n ≤ h
  h7 : h ≤ 7
  hp : h < p
  p2 : p ≤ 1073741824
theorem PlanN.mk' {p n h : Nat} (hp : PrimeN p) (h2 : p ≤ 1073741824) (h1 : 1 ≤ n) (hh : n ≤ h) (h7 : h ≤ 7) (hlt : h < p) : PlanN p n h :=
  ⟨hp, (prime_valid hp h2).1, plB_true h1 hh (by omega) hlt (prime_valid hp h2).2, h1, hh, h7, hlt, h2⟩
theorem PlanN.p1 {p n h : Nat} (H : PlanN p n h) : 1 ≤ p := by have := H.pr.1; omega

/-- Shares of the list sec. -/
structure Made (p n h : Nat) (sec : List Nat) (N : List ShN) : Prop where
  ex : ∃ F, OnP p h sec.length F N ∧ (∀ i, i < sec.length → (F i).length ≤ n) ∧ (List.range sec.length).map (fun i => evN p (F i) 0) = sec
theorem Made.perm {p n h : Nat} {sec : List Nat} {N M : List ShN} (H : Made p n h sec N) (hs : M.Perm N) : Made p n h sec M := by
  obtain ⟨F, h1, h2, h3⟩ := H.ex
  exact ⟨F, h1.perm hs, h2, h3⟩
theorem Made.take {p n h : Nat} {sec : List Nat} {N : List ShN} (H : Made p n h sec N) (k : Nat) : Made p n h sec (N.take k) := by
  obtain ⟨F, h1, h2, h3⟩ := H.ex
  exact ⟨F, h1.take k, h2, h3⟩
theorem Made.short {p n h : Nat} {sec : List Nat} {N : List ShN} (H : Made p n h sec N) (hm : sec.length ≤ 1048576) : Short (shL N) := by
  obtain ⟨F, h1, h2, h3⟩ := H.ex
  exact h1.short hm
theorem Made.cm {p n h : Nat} {sec : List Nat} {N : List ShN} (H : Made p n h sec N) (P : PlanN p n h) (hm : sec.length ≤ 2048) (hn : n ≤ N.length) : cmE p n h (shL N) = 0 ∧ cmL p n h (shL N) = sec := by
  obtain ⟨F, h1, h2, h3⟩ := H.ex
  have := cm_on h1 P.pr P.pl hm hn h2
  rw [h3] at this; exact this
theorem Made.few {p n h : Nat} {sec : List Nat} {N : List ShN} (H : Made p n h sec N) (P : PlanN p n h) (hm : sec.length ≤ 2048) (hn : N.length < n) : cmE p n h (shL N) = 5 ∧ cmL p n h (shL N) = [] := by
  obtain ⟨F, h1, h2, h3⟩ := H.ex
  have := cm_few h1 P.pl hm hn
  exact ⟨this, cmL_no (by rw [this]; decide)⟩
theorem Made.ft {p n h : Nat} {sec : List Nat} {N : List ShN} (H : Made p n h sec N) (P : PlanN p n h) (hm : sec.length ≤ 2048) : ftB p n h (shL N) = true := by
  obtain ⟨F, h1, h2, h3⟩ := H.ex
  exact ft_on h1 P.pr P.pl hm h2
theorem deal_Made {p n h : Nat} {sec ran : List Nat} (P : PlanN p n h) (hs : ∀ x ∈ sec, x < p) (hr : ∀ x ∈ ran, x < p) : Made p n h sec (dealN p n h sec ran) :=
  ⟨_, deal_on, fun _ _ => polN_le P.n1, deal_sec P.p1 hs hr⟩

def DealR (N : List ShN) (h : Nat) (w : World) (e : Ending) (w' : World) : Prop :=
  ∃ A c, e = .returned (.tuple #[.slice A h c, .int .i64 0]) ∧ ShP (fun b => w.heap.size ≤ b) w' A c (shL N) ∧ Below w.heap.size w w'
theorem deal_made {p n h : Nat} {A B : Option Addr} {ca cb k j : Nat} {sec ran : List Nat} {w : World} (P : PlanN p n h) (hB : Bases w) (hA : NatsAt w A sec) (hR : NatsAt w B ran) (hok : SlOK B cb ran)
    (hm : sec.length ≤ 2048) (hs : ∀ x ∈ sec, x < p) (hr : ∀ x ∈ ran, x < p) (hl : ran.length = sec.length * (n - 1)) (hl2 : ran.length ≤ 1048576) (hk : k = sec.length) (hj : j = ran.length) :
    Calls Tryd.prog 50 #[planV p n h, .slice A k ca, .slice B j cb] w (DealR (dealN p n h sec ran) h w) := by
  subst hk hj
  refine (deal_nats P.pv hB hA hR hok P.pl hm hs hr hl hl2).mono ?_
  rintro e w' ⟨A', c', rfl, h1, h2⟩
  exact ⟨A', c', by rw [shL_len, deal_len], h1, h2⟩

def Part (M N : List ShN) : Prop := ∃ M' : List ShN, M'.Perm N ∧ M = M'.take M.length
theorem Made.part {p n h : Nat} {sec : List Nat} {N M : List ShN} (H : Made p n h sec N) (hs : Part M N) : Made p n h sec M := by
  obtain ⟨M', h1, h2⟩ := hs
  rw [h2]; exact (H.perm h1).take _
def TurnM (D : Nat) (N : List ShN) (least : Nat) (w : World) (e : Ending) (w' : World) : Prop :=
  ∃ (A : Option Addr) (c : Nat) (M : List ShN) (R' : List Int), e = .returned (.slice A M.length c) ∧ Part M N ∧ M.length ≤ N.length ∧ (least ≤ N.length → least ≤ M.length) ∧ ShP (· ≠ D) w' A c (shL M) ∧ DiceAt w' D R' ∧ w.grownBy w' (some D)
theorem unshL {N : List ShN} {Q : List Shr} (hq : Q.Perm (shL N)) : ∃ M, Q = shL M ∧ M.length = N.length ∧ M.Perm N := by
  have hm : ∀ {Q T : List Shr}, Q.Perm T → ∀ N, T = shL N → ∃ M, Q = shL M ∧ M.Perm N := by
    intro Q T h
    induction h with
    | nil => intro N hN; exact ⟨[], rfl, by cases N with | nil => exact .nil | cons a t => simp [shL] at hN⟩
    | @cons x l1 l2 h ih => intro N hN; cases N with
      | nil => simp [shL] at hN
      | cons a t =>
        have hN' : x = shI a ∧ l2 = shL t := by simpa [shL] using hN
        obtain ⟨M, rfl, hM⟩ := ih t hN'.2
        exact ⟨a :: M, by rw [hN'.1]; rfl, hM.cons a⟩
    | swap x y l => intro N hN; cases N with
      | nil => simp [shL] at hN
      | cons a t => cases t with
        | nil => simp [shL] at hN
        | cons b u =>
          have hN' : x = shI a ∧ y = shI b ∧ l = shL u := by simpa [shL] using hN
          exact ⟨b :: a :: u, by rw [hN'.1, hN'.2.1, hN'.2.2]; rfl, .swap a b u⟩
    | trans h1 h2 ih1 ih2 => intro N hN; obtain ⟨M, e, hM⟩ := ih2 N hN; obtain ⟨K, e2, hK⟩ := ih1 M e; exact ⟨K, e2, hK.trans hM⟩
  obtain ⟨M, e, h⟩ := hm hq N rfl
  exact ⟨M, e, h.length_eq, h⟩
theorem turn_made {P : Nat → Prop} (D : Nat) (R : List Int) (A : Option Addr) (c k : Nat) (N : List ShN) (least : Nat) (w : World) (hd : DiceAt w D R) (hS : ShP P w A c (shL N)) (hsh : Short (shL N)) (hl : N.length ≤ 100000) (hle : least ≤ 100000) (hk : k = N.length) :
    Calls Tryd.prog 28 #[.pointer (some ⟨D, 0, none⟩), .slice A k c, .int .i64 (least : Int)] w (TurnM D N least w) := by
  rw [hk, ← shL_len]
  refine (turn_any D R A c (shL N) least w hd hS hsh (by rw [shL_len]; exact hl) hle).mono ?_
  rintro e w' ⟨A', c', m, Q, R', rfl, hq, hm, hlm, h1, h2, h3⟩
  obtain ⟨M, rfl, hM, hp⟩ := unshL hq
  rw [shL_len] at hm hlm
  have hl' : (M.take m).length = m := by rw [List.length_take]; omega
  rw [shL_take] at h1
  exact ⟨A', c', M.take m, R', by rw [hl'], ⟨M, hp, by rw [hl']⟩, by omega, by omega, h1, h2, h3⟩

theorem combine_made {p n h : Nat} {sec : List Nat} {N : List ShN} {P : Nat → Prop} (H : Made p n h sec N) (PN : PlanN p n h) (A : Option Addr) (c k : Nat) (w : World) (hB : Bases w) (hS : ShP P w A c (shL N)) (hm : sec.length ≤ 2048) (hl : N.length ≤ 1048576) (hk : k = N.length) (hn : n ≤ N.length) :
    Calls Tryd.prog 52 #[planV p n h, .slice A k c] w (ListErr sec 0 w) := by
  have h1 := H.cm PN hm hn
  have := combine_any p n h A c (shL N) w PN.pv hB hS (H.short (by omega)) (by rw [shL_len]; exact hl)
  rw [h1.1, h1.2, shL_len, ← hk] at this
  exact this
theorem combine_few {p n h : Nat} {sec : List Nat} {N : List ShN} {P : Nat → Prop} (H : Made p n h sec N) (PN : PlanN p n h) (A : Option Addr) (c k : Nat) (w : World) (hB : Bases w) (hS : ShP P w A c (shL N)) (hm : sec.length ≤ 2048) (hl : N.length ≤ 1048576) (hk : k = N.length) (hn : N.length < n) :
    Calls Tryd.prog 52 #[planV p n h, .slice A k c] w (ListErr [] 5 w) := by
  have h1 := H.few PN hm hn
  have := combine_any p n h A c (shL N) w PN.pv hB hS (H.short (by omega)) (by rw [shL_len]; exact hl)
  rw [h1.1, h1.2, shL_len, ← hk] at this
  exact this
theorem fits_made {p n h : Nat} {sec : List Nat} {N : List ShN} {P : Nat → Prop} (H : Made p n h sec N) (PN : PlanN p n h) (A : Option Addr) (c k : Nat) (w : World) (hB : Bases w) (hS : ShP P w A c (shL N)) (hm : sec.length ≤ 2048) (hl : N.length ≤ 1048576) (hk : k = N.length) :
    Calls Tryd.prog 51 #[planV p n h, .slice A k c] w (RetB (.bool true) w) := by
  have h1 := H.ft PN hm
  have := fits_any p n h A c (shL N) w PN.pv hB hS (H.short (by omega)) (by rw [shL_len]; exact hl)
  rw [h1, shL_len, ← hk] at this
  exact this
theorem below_drewT (w : World) : Below w.heap.size w w.drew := below_drewN (Below.refl _ w) 1
theorem ShP.drewT {P : Nat → Prop} {w : World} {A : Option Addr} {c : Nat} {S : List Shr} (h : ShP P w A c S) : ShP P w.drew A c S := h.below (below_drewT w)
theorem Held.drewT {w : World} {D : Nat} {A : Option Addr} {c : Nat} {L : List Nat} (h : Held w D A c L) : Held w.drew D A c L := h.below (below_drewT w)
theorem Env.drewT {w0 w : World} {D : Nat} {R : List Int} (h : Env w0 w D R) : Env w0 w.drew D R := h.mv (below_drewT w)
/-- Two equal lists. -/
theorem same_at (A A' : Option Addr) (L : List Nat) (k k' c c' : Nat) (w : World) (hL : NatsAt w A L) (hM : NatsAt w A' L) (hl : L.length ≤ 1152921504606846976) (hk : k = L.length) (hk' : k' = L.length) :
    Calls Tryd.prog 29 #[.slice A k c, .slice A' k' c'] w (Ret (.bool true) w) := by
  subst hk; subst hk'; exact same_nats A A' L c c' w hL hM hl
theorem ListErr.held {L : List Nat} {er : Int} {w w' : World} {e : Ending} {D : Nat} (h : ListErr L er w e w') (hD : D < w.heap.size) : ∃ A c, e = .returned (.tuple #[.slice A L.length c, .int .i64 er]) ∧ Held w' D A c L ∧ Below w.heap.size w w' := by
  obtain ⟨A, c, rfl, h1, h2, h3, h4⟩ := h
  exact ⟨A, c, rfl, held_new hD h1 h2 h3, h4⟩
end Go.Proofs.YtlhipgejiacklaaDoor
namespace Go.Proofs.YtlhipgejiacklaaDoor
open Go.RowKit

/-- A new share. -/
def NewShr (x : Int) (L : List Nat) (w : World) (e : Ending) (w' : World) : Prop :=
  ∃ A c, e = .returned (shV x (.slice A L.length c)) ∧ NatsAt w' A L ∧ SlOK A c L ∧ (∀ b off, A = some ⟨b, off, none⟩ → w.heap.size ≤ b ∧ b < w'.heap.size) ∧ Below w.heap.size w w'
def NewShrE (x : Int) (L : List Nat) (er : Int) (w : World) (e : Ending) (w' : World) : Prop :=
  ∃ A c, e = .returned (.tuple #[shV x (.slice A L.length c), .int .i64 er]) ∧ NatsAt w' A L ∧ SlOK A c L ∧ (∀ b off, A = some ⟨b, off, none⟩ → w.heap.size ≤ b ∧ b < w'.heap.size) ∧ Below w.heap.size w w'
theorem results_shr {fn : Func} {t : Tmp} (h : fn.results = #[.cell t 53]) (tmps : Array Value) (w : World) (g : Nat) (hp : tmps.getD t undef = .pointer (some ⟨g, 0, none⟩)) {x : Int} {v : Value} (hX : ShCell w g x v) :
    (results fn tmps).run Tryd.prog w = .ok (shV x v) w :=
  results_cell_row h tmps w g 53 _ (0, 0) _ hp hX Tryd.underlying53 rfl (by kernel_rfl)
theorem results_shr2 {fn : Func} {t u : Tmp} (h : fn.results = #[.cell t 53, .tmp u]) (tmps : Array Value) (w : World) (g : Nat) (hp : tmps.getD t undef = .pointer (some ⟨g, 0, none⟩)) {x : Int} {v : Value} (hX : ShCell w g x v) :
    (results fn tmps).run Tryd.prog w = .ok (.tuple #[shV x v, tmps.getD u undef]) w := by
  have hp' : tmps[t]?.getD undef = .pointer (some ⟨g, 0, none⟩) := by simpa using hp
  have hr := run_loadVar_row (P := Tryd.prog) w g 53 53 _ (0, 0) _ hX Tryd.underlying53 rfl (by kernel_rfl)
  simp [results, h, hp', asAddr, hr]
theorem linear_list (p : Nat) (A B : Option Addr) (L M : List Nat) (ca cb c : Nat) (w : World) (hp : 1 ≤ p) (hp2 : p ≤ 2147483648) (hA : NatsAt w A L) (hB : NatsAt w B M)
    (hL : ∀ x ∈ L, x < p) (hM : ∀ x ∈ M, x < p) (hc : c < p) (hl : L.length ≤ 1073741824) (hm : M.length ≤ 1073741824) :
    Calls Tryd.prog 77 #[.int .i64 p, .slice A L.length ca, .slice B M.length cb, .int .i64 c] w (NewList (linN p L M c) w) :=
  (linear_any p A B L M ca cb c w hp hp2 hA hB hL hM hc hl hm).mono fun _ _ h => h.list (by rw [linN_len]; unfold maxLen; omega)
theorem ShCell.lt {w : World} {g : Nat} {x : Int} {v : Value} (H : ShCell w g x v) : g < w.heap.size := blk_lt H
theorem keep_set2 {w : World} {g a b : Nat} {u v : Value} {q : Addr} {x : Value} (hq : q.block ≠ g) (h : w.cell? q = some x) : ((w.setCell ⟨g, a, none⟩ u).setCell ⟨g, b, none⟩ v).cell? q = some x :=
  ((World.cell?_setCell_other _ _ _ _ (fun e => hq (by subst e; rfl))).trans (World.cell?_setCell_other _ _ _ _ (fun e => hq (by subst e; rfl)))).trans h
theorem size_set2 {w : World} {a b : Addr} {u v : Value} : ((w.setCell a u).setCell b v).heap.size = w.heap.size := by simp [World.setCell]
theorem shcell_fill {w : World} {g : Nat} {x : Int} {v : Value} (H : ShCell w g x v) (y : Int) (u : Value) : ShCell ((w.setCell ⟨g, 0, none⟩ (.int .i64 y)).setCell ⟨g, 1, none⟩ u) g y u := (H.set0 y).set1 u
theorem nats_set2 {w : World} {g a b : Nat} {u v : Value} {A : Option Addr} {L : List Nat} (h : NatsAt w A L) (hA : ∀ b off, A = some ⟨b, off, none⟩ → b ≠ g) : NatsAt ((w.setCell ⟨g, a, none⟩ u).setCell ⟨g, b, none⟩ v) A L := fun k hk => by
  obtain ⟨b1, off, e, hlt, hc⟩ := h k hk
  exact ⟨b1, off, e, by rw [size_set2]; exact hlt, keep_set2 (hA b1 off e) hc⟩
theorem below_set2 {w w' : World} {B g a b : Nat} (h : Below B w w') (hg : B ≤ g) (u v : Value) : Below B w ((w'.setCell ⟨g, a, none⟩ u).setCell ⟨g, b, none⟩ v) :=
  ⟨h.os, h.tape, h.output, by rw [size_set2]; exact h.size, fun k hk => ((Below.heap_setCell _ _ _ k (by dsimp only; omega)).trans (Below.heap_setCell _ _ _ k (by dsimp only; omega))).trans (h.block k hk)⟩
/-- The plan, both shares, the result. -/
structure AddW (w w' : World) (p n h x : Int) (v : Value) (y : Int) (u : Value) : Prop where
  pl : PlanCell w' w.heap.size p n h
  a : ShCell w' (w.heap.size + 1) x v
  b : ShCell w' (w.heap.size + 1 + 1) y u
  r : ShCell w' (w.heap.size + 1 + 1 + 1) 0 (.slice none 0 0)
  be : Below w.heap.size w w'
theorem AddW.below {w w' w2 : World} {p n h x : Int} {v : Value} {y : Int} {u : Value} (H : AddW w w' p n h x v y u) (hb : Below w'.heap.size w' w2) : AddW w w2 p n h x v y u :=
  ⟨H.pl.below hb, H.a.below hb, H.b.below hb, H.r.below hb, below_trans H.be hb⟩
theorem AddW.start (w : World) (p n h x : Int) (v : Value) (y : Int) (u : Value) : AddW w ((((w.alloc (.cells #[.int .i64 p, .int .i64 n, .int .i64 h] 28)).alloc (.cells #[.int .i64 x, v] 53)).alloc (.cells #[.int .i64 y, u] 53)).alloc (.cells #[.int .i64 0, .slice none 0 0] 53)) p n h x v y u :=
  ⟨(((PlanCell.new _ _ _ rfl).alloc _).alloc _).alloc _, ((ShCell.new _ _ (by simp)).alloc _).alloc _, (ShCell.new _ _ (by simp)).alloc _, ShCell.new _ _ (by simp),
    below_trans (below_trans (below_trans (below_alloc _ _) (below_alloc _ _)) (below_alloc _ _)) (below_alloc _ _)⟩
theorem AddW.bases {w : World} {a b c d : Obj} (hB : Bases w) : Bases ((((w.alloc a).alloc b).alloc c).alloc d) :=
  hB.below (below_trans (below_trans (below_trans (below_alloc w a) (below_alloc _ b)) (below_alloc _ c)) (below_alloc _ d)) hB.1
def AdP (p n h x y : Int) (L M : List Int) : Prop := plB p n h = true ∧ stB p h x L = true ∧ stB p h y M = true ∧ x = y ∧ L.length = M.length
instance (p n h x y : Int) (L M : List Int) : Decidable (AdP p n h x y L M) := by unfold AdP; exact inferInstance
def adE (p n h x y : Int) (L M : List Int) : Int := if AdP p n h x y L M then 0 else 1
def adX (p n h x y : Int) (L M : List Int) : Int := if AdP p n h x y L M then x else 0
def adL (p n h x y : Int) (L M : List Int) : List Nat := if AdP p n h x y L M then linN p.toNat (L.map Int.toNat) (M.map Int.toNat) 1 else []
theorem adE_ok {p n h x y : Int} {L M : List Int} (H : AdP p n h x y L M) : adE p n h x y L M = 0 := if_pos H
theorem adX_ok {p n h x y : Int} {L M : List Int} (H : AdP p n h x y L M) : adX p n h x y L M = x := if_pos H
theorem adL_ok {p : Nat} {n h x y : Int} {L M : List Int} (H : AdP p n h x y L M) : adL p n h x y L M = linN p (L.map Int.toNat) (M.map Int.toNat) 1 := if_pos H
theorem ad_no {p n h x y : Int} {L M : List Int} (H : ¬ AdP p n h x y L M) : adE p n h x y L M = 1 ∧ adX p n h x y L M = 0 ∧ adL p n h x y L M = [] := ⟨if_neg H, if_neg H, if_neg H⟩
theorem NewShrE.no {w w' : World} (hb : Below w.heap.size w w') : NewShrE 0 [] 1 w (.returned (.tuple #[shV 0 (.slice none 0 0), .int .i64 1])) w' :=
  ⟨none, 0, rfl, NatsAt.nil _ _, SlOK.none0, fun _ _ e => (by cases e), hb⟩
theorem plB_nat {p n h : Int} (H : plB p n h = true) (hv : primeV p = validI p) : ∃ q : Nat, p = (q : Int) ∧ 1 ≤ q ∧ q ≤ 2147483648 := by
  obtain ⟨q, h1, h2, h3⟩ := plan_prime (of_decide_eq_true H) hv
  have := h2.1
  exact ⟨q, h1, by omega, by omega⟩
theorem plB_two {p : Nat} {n h : Int} (H : plB p n h = true) : 1 < p := by
  have : PlanP p n h := of_decide_eq_true H
  obtain ⟨h1, h2, h3, h4, -⟩ := this
  omega
theorem plB_pv {p n h : Int} (H : plB p n h = true) (hv : primeV p = validI p) : primeV p = true := by
  have : PlanP p n h := of_decide_eq_true H
  rw [hv]; exact this.2.2.2.2

set_option maxRecDepth 100000 in
set_option maxHeartbeats 4000000 in
theorem addS_ok (p : Nat) (n h x : Int) (B B' : Option Addr) (L M : List Nat) (cb cb' k : Nat) (w : World) (hp1 : 1 ≤ p) (hp2 : p ≤ 2147483648) (_ : primeV p = validI p) (hB : Bases w) (hpl : plB p n h = true) (hsa : stB p h x (ofN L) = true) (hsb : stB p h x (ofN M) = true) (hkL : k = L.length) (hkM : k = M.length) (hLp : ∀ y ∈ L, y < p) (hMp : ∀ y ∈ M, y < p) (hI : IntsAt w B (ofN L)) (hJ : IntsAt w B' (ofN M)) (hl : k ≤ 1048576) :
    Calls Tryd.prog 62 #[planV p n h, shV x (.slice B k cb), shV x (.slice B' k cb')] w (NewShrE x (linN p L M 1) 0 w) := by
  have HI := Lib.hid hI
  have HJ := Lib.hid hJ
  have HLp := Lib.hid hLp
  have HMp := Lib.hid hMp
  have HB := Lib.hid hB
  clear hB
  have HV := Lib.hid (fun (W : World) (hB : Bases W) => by have := valid_plan p n h W hB; rw [hpl] at this; exact this)
  have HSA := Lib.hid (fun (W : World) (hI : IntsAt W B (ofN L)) => by have := stands_any p n h x B (ofN L) cb W hI (by rw [len_ofN]; omega); rw [hsa, len_ofN, ← hkL] at this; exact this)
  have HSB := Lib.hid (fun (W : World) (hI : IntsAt W B' (ofN M)) => by have := stands_any p n h x B' (ofN M) cb' W hI (by rw [len_ofN]; omega); rw [hsb, len_ofN, ← hkM] at this; exact this)
  have HKL := Lib.hid hkL
  have HKM := Lib.hid hkM
  have hLl : L.length ≤ 1048576 := by omega
  have hMl : M.length ≤ 1048576 := by omega
  have h1p : 1 < p := plB_two hpl
  clear hI hJ hLp hMp hkL hkM
  have HLIN := Lib.hid (fun (W : World) (h1 : NatsAt W B L) (h2 : NatsAt W B' M) => by have := linear_list p B B' L M cb cb' 1 W hp1 hp2 h1 h2 HLp.out HMp.out h1p (by omega) (by omega); rw [← HKL.out, ← HKM.out] at this; exact this)
  go_enter Tryd.func62, Tryd.ntmps62
  go_wp2_with fail
  refine ret_below (HV.out _ (AddW.bases HB.out)) ?_
  intro w2 hb2
  have HW2 := Lib.hid ((AddW.start w _ _ _ _ _ _ _).below hb2)
  have x20 := HW2.out.pl.c0
  have x21 := HW2.out.pl.c1
  have x22 := HW2.out.pl.c2
  have x23 := HW2.out.a.c0
  have x24 := HW2.out.a.c1
  have x25 := HW2.out.b.c0
  have x26 := HW2.out.b.c1
  clear hb2
  go_wp2_with fail
  refine ret_below (HSA.out _ (HI.out.below HW2.out.be)) ?_
  intro w3 hb3
  have HW3 := Lib.hid (HW2.out.below hb3)
  have x30 := HW3.out.pl.c0
  have x31 := HW3.out.pl.c1
  have x32 := HW3.out.pl.c2
  have x33 := HW3.out.a.c0
  have x34 := HW3.out.a.c1
  have x35 := HW3.out.b.c0
  have x36 := HW3.out.b.c1
  clear x20 x21 x22 x23 x24 x25 x26
  clear hb3
  go_wp2_with fail
  refine ret_below (HSB.out _ (HJ.out.below HW3.out.be)) ?_
  intro w4 hb4
  have HW4 := Lib.hid (HW3.out.below hb4)
  have x40 := HW4.out.pl.c0
  have x41 := HW4.out.pl.c1
  have x42 := HW4.out.pl.c2
  have x43 := HW4.out.a.c0
  have x44 := HW4.out.a.c1
  have x45 := HW4.out.b.c0
  have x46 := HW4.out.b.c1
  clear x30 x31 x32 x33 x34 x35 x36
  clear hb4
  have hlt := HW4.out.r.lt
  have f0 := HW4.out.r.frozen 0
  have f1 := HW4.out.r.frozen 1
  have r0 := HW4.out.r.c0
  have r1 := HW4.out.r.c1
  go_wp2_with fail
  go_region_held3 (fun w' => w'.cell? ⟨w.heap.size, 0, none⟩ = some (.int .i64 (p : Int)) ∧ w'.cell? ⟨w.heap.size + 1, 0, none⟩ = some (.int .i64 x) ∧ w'.cell? ⟨w.heap.size + 1, 1, none⟩ = some (.slice B k cb) ∧ w'.cell? ⟨w.heap.size + 1 + 1, 1, none⟩ = some (.slice B' k cb')) (first | (go_keep; done) | (refine ⟨?_, ?_, ?_, ?_⟩ <;> (first | (go_keep; done) | (refine keep_set2 (by dsimp only; omega) ?_; assumption) | (refine keep_set2 (by dsimp only; omega) ?_; go_keep))))
    ((go_at_call 77; refine (HLIN.out _ ((HI.out.below HW4.out.be).nats.below (below_drewT _)) ((HJ.out.below HW4.out.be).nats.below (below_drewT _))).mono ?_; intro e w5 he; obtain ⟨A6, c6, rfl, hN6, hS6, hO6, hb6⟩ := he.open_; have hb5 : Below w4.heap.size w4 w5 := (below_undrew1 hb6); have HW5 := Lib.hid (HW4.out.below hb5); have x50 := HW5.out.pl.c0; have x51 := HW5.out.pl.c1; have x52 := HW5.out.pl.c2; have x53 := HW5.out.a.c0; have x54 := HW5.out.a.c1; have x55 := HW5.out.b.c0; have x56 := HW5.out.b.c1; have g0 := HW5.out.r.frozen 0; have g1 := HW5.out.r.frozen 1; have v0 := HW5.out.r.c0; have v1 := HW5.out.r.c1; have hO6' : ∀ b off, A6 = some ⟨b, off, none⟩ → w4.heap.size ≤ b ∧ b < w5.heap.size := (fun b off e => by have := hO6 b off e; rw [World.size_drew] at this; exact this)))
  go_wp2_with fail
  refine bodyPost_ret (results_shr2 rfl _ _ (w.heap.size + 1 + 1 + 1) rfl (shcell_fill HW5.out.r x _)) rfl ⟨A6, c6, rfl, nats_set2 hN6 (fun b off e => by have := hO6' b off e; omega), hS6, fun b off e => ?_, ?_⟩
  · have := hO6' b off e
    rw [size_set2]
    exact ⟨Nat.le_trans HW4.out.be.size this.1, this.2⟩
  · exact below_set2 HW5.out.be (by omega) _ _

set_option maxRecDepth 100000 in
set_option maxHeartbeats 4000000 in
theorem addS_any (p n h x y : Int) (B B' : Option Addr) (L M : List Int) (cb cb' : Nat) (w : World) (hv : primeV p = validI p) (hB : Bases w) (hI : IntsAt w B L) (hJ : IntsAt w B' M) (hl : L.length ≤ 1048576) (hm : M.length ≤ 1048576) :
    Calls Tryd.prog 62 #[planV p n h, shV x (.slice B L.length cb), shV y (.slice B' M.length cb')] w (NewShrE (adX p n h x y L M) (adL p n h x y L M) (adE p n h x y L M) w) := by
  by_cases hok : AdP p n h x y L M
  · have hok' := hok
    obtain ⟨hpl, hsa, hsb, rfl, hlen⟩ := hok
    obtain ⟨q, rfl, hq1, hq2⟩ := plB_nat hpl hv
    have h1 := inside_nat (stB_bd hsa).2.2
    have h2 := inside_nat (stB_bd hsb).2.2
    have := addS_ok q n h x B B' (L.map Int.toNat) (M.map Int.toNat) cb cb' L.length w hq1 hq2 hv hB hpl (by rw [h1.1]; exact hsa) (by rw [h2.1]; exact hsb) (by simp) (by simpa using hlen) h1.2 h2.2 (by rw [h1.1]; exact hI) (by rw [h2.1]; exact hJ) hl
    rw [adX_ok hok', adL_ok hok', adE_ok hok', ← hlen]
    exact this
  · have HE := Lib.hid (ad_no hok)
    have HI := Lib.hid hI
    have HJ := Lib.hid hJ
    have HB := Lib.hid hB
    clear hB
    by_cases hpl : plB p n h = true
    · by_cases hsa : stB p h x L = true
      · by_cases hsb : stB p h y M = true
        · by_cases hxy : x = y
          · subst hxy
            have hlen : ¬ L.length = M.length := fun e => hok ⟨hpl, hsa, hsb, rfl, e⟩
            have HV := Lib.hid (fun (W : World) (hB : Bases W) => by have := valid_plan p n h W hB; rw [hpl] at this; exact this)
            have HSA := Lib.hid (fun (W : World) (hI : IntsAt W B L) => by have := stands_any p n h x B L cb W hI (by omega); rw [hsa] at this; exact this)
            have HSB := Lib.hid (fun (W : World) (hI : IntsAt W B' M) => by have := stands_any p n h x B' M cb' W hI (by omega); rw [hsb] at this; exact this)
            clear hI hJ
            go_enter Tryd.func62, Tryd.ntmps62
            go_wp2_with fail
            refine ret_below (HV.out _ (AddW.bases HB.out)) ?_
            intro w2 hb2
            have HW2 := Lib.hid ((AddW.start w _ _ _ _ _ _ _).below hb2)
            have x20 := HW2.out.pl.c0
            have x21 := HW2.out.pl.c1
            have x22 := HW2.out.pl.c2
            have x23 := HW2.out.a.c0
            have x24 := HW2.out.a.c1
            have x25 := HW2.out.b.c0
            have x26 := HW2.out.b.c1
            clear hb2
            go_wp2_with fail
            refine ret_below (HSA.out _ (HI.out.below HW2.out.be)) ?_
            intro w3 hb3
            have HW3 := Lib.hid (HW2.out.below hb3)
            have x30 := HW3.out.pl.c0
            have x31 := HW3.out.pl.c1
            have x32 := HW3.out.pl.c2
            have x33 := HW3.out.a.c0
            have x34 := HW3.out.a.c1
            have x35 := HW3.out.b.c0
            have x36 := HW3.out.b.c1
            clear x20 x21 x22 x23 x24 x25 x26
            clear hb3
            go_wp2_with fail
            refine ret_below (HSB.out _ (HJ.out.below HW3.out.be)) ?_
            intro w4 hb4
            have HW4 := Lib.hid (HW3.out.below hb4)
            have x40 := HW4.out.pl.c0
            have x41 := HW4.out.pl.c1
            have x42 := HW4.out.pl.c2
            have x43 := HW4.out.a.c0
            have x44 := HW4.out.a.c1
            have x45 := HW4.out.b.c0
            have x46 := HW4.out.b.c1
            clear x30 x31 x32 x33 x34 x35 x36
            clear hb4
            have hlt := HW4.out.r.lt
            have f0 := HW4.out.r.frozen 0
            have f1 := HW4.out.r.frozen 1
            have r0 := HW4.out.r.c0
            have r1 := HW4.out.r.c1
            go_wp2_with fail
            refine bodyPost_ret (results_shr2 rfl _ _ (w.heap.size + 1 + 1 + 1) rfl (shcell_fill HW4.out.r 0 _)) rfl ?_
            rw [HE.out.1, HE.out.2.1, HE.out.2.2]
            exact NewShrE.no (below_set2 HW4.out.be (by omega) _ _)
          · clear hok
            have HV := Lib.hid (fun (W : World) (hB : Bases W) => by have := valid_plan p n h W hB; rw [hpl] at this; exact this)
            have HSA := Lib.hid (fun (W : World) (hI : IntsAt W B L) => by have := stands_any p n h x B L cb W hI (by omega); rw [hsa] at this; exact this)
            have HSB := Lib.hid (fun (W : World) (hI : IntsAt W B' M) => by have := stands_any p n h y B' M cb' W hI (by omega); rw [hsb] at this; exact this)
            clear hI hJ
            go_enter Tryd.func62, Tryd.ntmps62
            go_wp2_with fail
            refine ret_below (HV.out _ (AddW.bases HB.out)) ?_
            intro w2 hb2
            have HW2 := Lib.hid ((AddW.start w _ _ _ _ _ _ _).below hb2)
            have x20 := HW2.out.pl.c0
            have x21 := HW2.out.pl.c1
            have x22 := HW2.out.pl.c2
            have x23 := HW2.out.a.c0
            have x24 := HW2.out.a.c1
            have x25 := HW2.out.b.c0
            have x26 := HW2.out.b.c1
            clear hb2
            go_wp2_with fail
            refine ret_below (HSA.out _ (HI.out.below HW2.out.be)) ?_
            intro w3 hb3
            have HW3 := Lib.hid (HW2.out.below hb3)
            have x30 := HW3.out.pl.c0
            have x31 := HW3.out.pl.c1
            have x32 := HW3.out.pl.c2
            have x33 := HW3.out.a.c0
            have x34 := HW3.out.a.c1
            have x35 := HW3.out.b.c0
            have x36 := HW3.out.b.c1
            clear x20 x21 x22 x23 x24 x25 x26
            clear hb3
            go_wp2_with fail
            refine ret_below (HSB.out _ (HJ.out.below HW3.out.be)) ?_
            intro w4 hb4
            have HW4 := Lib.hid (HW3.out.below hb4)
            have x40 := HW4.out.pl.c0
            have x41 := HW4.out.pl.c1
            have x42 := HW4.out.pl.c2
            have x43 := HW4.out.a.c0
            have x44 := HW4.out.a.c1
            have x45 := HW4.out.b.c0
            have x46 := HW4.out.b.c1
            clear x30 x31 x32 x33 x34 x35 x36
            clear hb4
            have hlt := HW4.out.r.lt
            have f0 := HW4.out.r.frozen 0
            have f1 := HW4.out.r.frozen 1
            have r0 := HW4.out.r.c0
            have r1 := HW4.out.r.c1
            go_wp2_with fail
            refine bodyPost_ret (results_shr2 rfl _ _ (w.heap.size + 1 + 1 + 1) rfl (shcell_fill HW4.out.r 0 _)) rfl ?_
            rw [HE.out.1, HE.out.2.1, HE.out.2.2]
            exact NewShrE.no (below_set2 HW4.out.be (by omega) _ _)
        · clear hok
          have hsb' : stB p h y M = false := by simpa using hsb
          have HV := Lib.hid (fun (W : World) (hB : Bases W) => by have := valid_plan p n h W hB; rw [hpl] at this; exact this)
          have HSA := Lib.hid (fun (W : World) (hI : IntsAt W B L) => by have := stands_any p n h x B L cb W hI (by omega); rw [hsa] at this; exact this)
          have HSB := Lib.hid (fun (W : World) (hI : IntsAt W B' M) => by have := stands_any p n h y B' M cb' W hI (by omega); rw [hsb'] at this; exact this)
          clear hI hJ
          go_enter Tryd.func62, Tryd.ntmps62
          go_wp2_with fail
          refine ret_below (HV.out _ (AddW.bases HB.out)) ?_
          intro w2 hb2
          have HW2 := Lib.hid ((AddW.start w _ _ _ _ _ _ _).below hb2)
          have x20 := HW2.out.pl.c0
          have x21 := HW2.out.pl.c1
          have x22 := HW2.out.pl.c2
          have x23 := HW2.out.a.c0
          have x24 := HW2.out.a.c1
          have x25 := HW2.out.b.c0
          have x26 := HW2.out.b.c1
          clear hb2
          go_wp2_with fail
          refine ret_below (HSA.out _ (HI.out.below HW2.out.be)) ?_
          intro w3 hb3
          have HW3 := Lib.hid (HW2.out.below hb3)
          have x30 := HW3.out.pl.c0
          have x31 := HW3.out.pl.c1
          have x32 := HW3.out.pl.c2
          have x33 := HW3.out.a.c0
          have x34 := HW3.out.a.c1
          have x35 := HW3.out.b.c0
          have x36 := HW3.out.b.c1
          clear x20 x21 x22 x23 x24 x25 x26
          clear hb3
          go_wp2_with fail
          refine ret_below (HSB.out _ (HJ.out.below HW3.out.be)) ?_
          intro w4 hb4
          have HW4 := Lib.hid (HW3.out.below hb4)
          have x40 := HW4.out.pl.c0
          have x41 := HW4.out.pl.c1
          have x42 := HW4.out.pl.c2
          have x43 := HW4.out.a.c0
          have x44 := HW4.out.a.c1
          have x45 := HW4.out.b.c0
          have x46 := HW4.out.b.c1
          clear x30 x31 x32 x33 x34 x35 x36
          clear hb4
          have hlt := HW4.out.r.lt
          have f0 := HW4.out.r.frozen 0
          have f1 := HW4.out.r.frozen 1
          have r0 := HW4.out.r.c0
          have r1 := HW4.out.r.c1
          go_wp2_with fail
          refine bodyPost_ret (results_shr2 rfl _ _ (w.heap.size + 1 + 1 + 1) rfl (shcell_fill HW4.out.r 0 _)) rfl ?_
          rw [HE.out.1, HE.out.2.1, HE.out.2.2]
          exact NewShrE.no (below_set2 HW4.out.be (by omega) _ _)
      · clear hok
        have hsa' : stB p h x L = false := by simpa using hsa
        have HV := Lib.hid (fun (W : World) (hB : Bases W) => by have := valid_plan p n h W hB; rw [hpl] at this; exact this)
        have HSA := Lib.hid (fun (W : World) (hI : IntsAt W B L) => by have := stands_any p n h x B L cb W hI (by omega); rw [hsa'] at this; exact this)
        clear hI hJ
        go_enter Tryd.func62, Tryd.ntmps62
        go_wp2_with fail
        refine ret_below (HV.out _ (AddW.bases HB.out)) ?_
        intro w2 hb2
        have HW2 := Lib.hid ((AddW.start w _ _ _ _ _ _ _).below hb2)
        have x20 := HW2.out.pl.c0
        have x21 := HW2.out.pl.c1
        have x22 := HW2.out.pl.c2
        have x23 := HW2.out.a.c0
        have x24 := HW2.out.a.c1
        have x25 := HW2.out.b.c0
        have x26 := HW2.out.b.c1
        clear hb2
        go_wp2_with fail
        refine ret_below (HSA.out _ (HI.out.below HW2.out.be)) ?_
        intro w3 hb3
        have HW3 := Lib.hid (HW2.out.below hb3)
        have x30 := HW3.out.pl.c0
        have x31 := HW3.out.pl.c1
        have x32 := HW3.out.pl.c2
        have x33 := HW3.out.a.c0
        have x34 := HW3.out.a.c1
        have x35 := HW3.out.b.c0
        have x36 := HW3.out.b.c1
        clear x20 x21 x22 x23 x24 x25 x26
        clear hb3
        have hlt := HW3.out.r.lt
        have f0 := HW3.out.r.frozen 0
        have f1 := HW3.out.r.frozen 1
        have r0 := HW3.out.r.c0
        have r1 := HW3.out.r.c1
        go_wp2_with fail
        refine bodyPost_ret (results_shr2 rfl _ _ (w.heap.size + 1 + 1 + 1) rfl (shcell_fill HW3.out.r 0 _)) rfl ?_
        rw [HE.out.1, HE.out.2.1, HE.out.2.2]
        exact NewShrE.no (below_set2 HW3.out.be (by omega) _ _)
    · clear hok
      have hpl' : plB p n h = false := by simpa using hpl
      have HV := Lib.hid (fun (W : World) (hB : Bases W) => by have := valid_plan p n h W hB; rw [hpl'] at this; exact this)
      clear hI hJ
      go_enter Tryd.func62, Tryd.ntmps62
      go_wp2_with fail
      refine ret_below (HV.out _ (AddW.bases HB.out)) ?_
      intro w2 hb2
      have HW2 := Lib.hid ((AddW.start w _ _ _ _ _ _ _).below hb2)
      have x20 := HW2.out.pl.c0
      have x21 := HW2.out.pl.c1
      have x22 := HW2.out.pl.c2
      have x23 := HW2.out.a.c0
      have x24 := HW2.out.a.c1
      have x25 := HW2.out.b.c0
      have x26 := HW2.out.b.c1
      clear hb2
      have hlt := HW2.out.r.lt
      have f0 := HW2.out.r.frozen 0
      have f1 := HW2.out.r.frozen 1
      have r0 := HW2.out.r.c0
      have r1 := HW2.out.r.c1
      go_wp2_with fail
      refine bodyPost_ret (results_shr2 rfl _ _ (w.heap.size + 1 + 1 + 1) rfl (shcell_fill HW2.out.r 0 _)) rfl ?_
      rw [HE.out.1, HE.out.2.1, HE.out.2.2]
      exact NewShrE.no (below_set2 HW2.out.be (by omega) _ _)

end Go.Proofs.YtlhipgejiacklaaDoor
namespace Go.Proofs.YtlhipgejiacklaaDoor
open Go.RowKit

/-! ### Sums -/
theorem cg_evs {p x : Nat} (L : List Nat) (n : Nat) (h : L.length ≤ n) : Cg p (evN p L x : Nat) (sumI n fun k => (nthN L k : Int) * x ^ k) := (cg_ev p x L).trans (.of_eq (evalZ_sum x L n h))
theorem ev_lin {p : Nat} (hp : 1 ≤ p) (F G : List Nat) (c x : Nat) : evN p (linN p F G c) x = fadd p (evN p F x) (fmul p c (evN p G x)) := by
  refine Cg.nat ((cg_evs (linN p F G c) (max F.length G.length) (by rw [linN_len]; exact Nat.le_refl _)).trans ?_) (evN_lt hp _ _) (fadd_lt hp _ _)
  refine (sumI_cg (g := fun k => (nthN F k : Int) * x ^ k + c * ((nthN G k : Int) * x ^ k)) _ fun k hk => ?_).trans ?_
  · rw [linN_nth hk]
    refine (((cg_add p _ _).trans ((Cg.refl p _).add (cg_mul p _ _))).mul (Cg.refl p _)).trans (.of_eq (by grind))
  · rw [sumI_add, sumI_mul]
    exact ((cg_add p _ _).trans ((cg_evs F _ (Nat.le_max_left _ _)).add ((cg_mul p _ _).trans ((Cg.refl p _).mul (cg_evs G _ (Nat.le_max_right _ _)))))).symm
theorem lin_one {p y : Nat} (h : y < p) : fmul p 1 (fadd p 0 y) = y := by unfold fmul fadd; rw [Nat.one_mul, Nat.zero_add, Nat.mod_mod, Nat.mod_eq_of_lt h]
theorem lin0_len {p c : Nat} {M : List Nat} : (linN p [] M c).length = M.length := by rw [linN_len]; simp
def sumV (p : Nat) (L M : List Nat) (c : Nat) : List Nat := linN p L (linN p [] M c) 1
theorem sumV_len {p c : Nat} {L M : List Nat} (h : L.length = M.length) : (sumV p L M c).length = L.length := by simp [sumV, linN_len, h]
theorem sumV_nth {p c i : Nat} {L M : List Nat} (hp : 1 ≤ p) (h : L.length = M.length) (hi : i < L.length) : nthN (sumV p L M c) i = fadd p (nthN L i) (fmul p c (nthN M i)) := by
  unfold sumV
  rw [linN_nth (by rw [linN_len]; omega), linN_nth (by simp; omega), nthN_nil, lin_one (fmul_lt hp _ _)]
/-- The shares N and c times M. -/
def addT (p c : Nat) (N M : List ShN) : List ShN := (List.range N.length).map fun k => (hN N k, sumV p (vN N k) (vN M k) c)
theorem addT_len (p c : Nat) (N M : List ShN) : (addT p c N M).length = N.length := by simp [addT]
theorem addT_at {p c k : Nat} {N M : List ShN} (h : k < N.length) : hN (addT p c N M) k = hN N k ∧ vN (addT p c N M) k = sumV p (vN N k) (vN M k) c := by
  simp [addT, hN, vN, List.getD_eq_getElem?_getD, h]
theorem addT_take {p c k : Nat} {N M : List ShN} (h : k < N.length) : (addT p c N M).take (k + 1) = (addT p c N M).take k ++ [(hN N k, sumV p (vN N k) (vN M k) c)] := by
  rw [List.take_succ_eq_append_getElem (by rw [addT_len]; exact h), getD_at (by rw [addT_len]; exact h), (addT_at h).1, (addT_at h).2]
theorem add_on {p h m c : Nat} {F G : Nat → List Nat} {N M : List ShN} (hp : 1 ≤ p) (H : OnP p h m F N) (K : OnP p h m G M) (hl : M.length = N.length) (hh : ∀ k, k < N.length → hN M k = hN N k) :
    OnP p h m (fun i => linN p (F i) (G i) c) (addT p c N M) := by
  refine ⟨fun s hs => ?_, ?_⟩
  · obtain ⟨k, hk, rfl⟩ := shl_mem hs
    rw [addT_len] at hk
    rw [(addT_at hk).1, (addT_at hk).2]
    obtain ⟨h1, h2, h3⟩ := H.at_ hk
    obtain ⟨-, -, k3⟩ := K.at_ (show k < M.length by omega)
    refine ⟨h1, h2, ?_⟩
    simp only
    rw [hh k hk] at k3
    have l1 : (vN N k).length = m := by rw [h3]; simp
    have l2 : (vN M k).length = m := by rw [k3]; simp
    refine extN (by rw [sumV_len (by omega)]; simp [l1]) fun i hi => ?_
    rw [sumV_len (by omega)] at hi
    rw [sumV_nth hp (by omega) hi, h3, k3, nthN_eq (by simpa [l1] using hi), nthN_eq (by simpa [l1] using hi), nthN_eq (by simpa [l1] using hi)]
    simp [ev_lin hp]
  · refine nodup_hsN fun k hk j hj => ?_
    rw [addT_len] at hk
    rw [(addT_at hk).1, (addT_at (show j < N.length by omega)).1]
    exact (hsN_ne H.nd (show j < N.length by omega) hk (by omega))
theorem Made.add {p n h c : Nat} {a b : List Nat} {N M : List ShN} (hp : 1 ≤ p) (H : Made p n h a N) (K : Made p n h b M) (hab : a.length = b.length) (hl : M.length = N.length) (hh : ∀ k, k < N.length → hN M k = hN N k) :
    Made p n h (linN p a b c) (addT p c N M) := by
  obtain ⟨F, h1, h2, h3⟩ := H.ex
  obtain ⟨G, k1, k2, k3⟩ := K.ex
  have hle : (linN p a b c).length = a.length := by rw [linN_len]; omega
  rw [← hab] at k1 k2
  refine ⟨fun i => linN p (F i) (G i) c, by rw [hle]; exact add_on hp h1 k1 hl hh, fun i hi => ?_, ?_⟩
  · rw [hle] at hi
    have := h2 i hi; have := k2 i hi
    rw [linN_len]; omega
  · refine extN (by simp) fun i hi => ?_
    have hi' : i < a.length := by simpa [hle] using hi
    have e1 : nthN a i = evN p (F i) 0 := by
      conv => lhs; rw [← h3]
      rw [nthN_eq (by simpa using hi')]; simp
    have e2 : nthN b i = evN p (G i) 0 := by
      conv => lhs; rw [← k3]
      rw [nthN_eq (by simp; omega)]; simp
    rw [nthN_eq hi, linN_nth (by omega), e1, e2]
    simp [ev_lin hp]
theorem deal_hold {p n h k : Nat} {a b ra rb : List Nat} (hk : k < (dealN p n h a ra).length) : hN (dealN p n h b rb) k = hN (dealN p n h a ra) k := by
  rw [deal_len] at hk
  unfold dealN
  rw [(dealtT_at hk).1, (dealtT_at hk).1]

theorem random_nat (p n h q rl : Nat) (w : World) (hrl : rl = q * (n - 1)) (hn : 1 ≤ n) (hn2 : n ≤ 1000) (hq : q ≤ 1048576) :
    Calls Tryd.prog 83 #[planV p n h, .int .i64 (q : Int)] w (RetB (.int .i64 (rl : Int)) w) := by
  have := random_any p n h q w (by omega) (by omega) (by omega) (by omega)
  rw [show (q : Int) * ((n : Int) - 1) = ((rl : Nat) : Int) from by rw [hrl, show ((n : Int) - 1) = ((n - 1 : Nat) : Int) by omega]; push_cast; rfl] at this
  exact this
theorem gen_calls {P : Program} {f : FuncId} {args : Array Value} {w : World} {Q : Ending → World → Prop} (h : ∀ w', w' = w → Calls P f args w' Q) : Calls P f args w Q := h w rfl
theorem deal_row {p n h k : Nat} {sec ran : List Nat} (hp : 1 ≤ p) (hk : k < h) : hN (dealN p n h sec ran) k = k + 1 ∧ (vN (dealN p n h sec ran) k).length = sec.length ∧ ∀ y ∈ vN (dealN p n h sec ran) k, y < p := by
  unfold dealN
  rw [(dealtT_at hk).1, (dealtT_at hk).2]
  refine ⟨rfl, by simp, fun y hy => ?_⟩
  obtain ⟨i, -, rfl⟩ := List.mem_map.1 hy
  exact evN_lt hp _ _

/-! ### A share that a call returned, laid into a variable: the variable is made before or behind the call -/
theorem bl_refl (w : World) : Below w.heap.size w w := Below.refl _ w
theorem bl_drew {w0 w : World} (h : Below w0.heap.size w0 w) : Below w0.heap.size w0 w.drew := h.drew
theorem bl_alloc {w0 w : World} (o : Obj) (h : Below w0.heap.size w0 w) : Below w0.heap.size w0 (w.alloc o) := below_trans h (below_alloc _ _)
abbrev shO : Obj := .cells #[.int .i64 0, .slice none 0 0] 53
structure ShNew (w0 w : World) (g : Nat) (x : Int) (A : Option Addr) (c : Nat) (L : List Nat) : Prop where
  cell : ShCell w g x (.slice A L.length c)
  nats : NatsAt w A L
  ok : SlOK A c L
  off : ∀ b off, A = some ⟨b, off, none⟩ → w0.heap.size ≤ b ∧ b < w.heap.size
  low : w0.heap.size ≤ g
  below : Below w0.heap.size w0 w
theorem ShNew.drew {w0 w : World} {g : Nat} {x : Int} {A : Option Addr} {c : Nat} {L : List Nat} (h : ShNew w0 w g x A c L) : ShNew w0 w.drew g x A c L := ⟨h.cell, h.nats, h.ok, h.off, h.low, h.below.drew⟩
theorem ShNew.early {w0 W w : World} {g : Nat} {x : Int} {A : Option Addr} {c : Nat} {L : List Nat} (hR : ShCell W g 0 (.slice none 0 0)) (hg : w0.heap.size ≤ g) (hW : Below w0.heap.size w0 W) (hb : Below W.heap.size W w) (hN : NatsAt w A L) (hS : SlOK A c L) (hO : ∀ b off, A = some ⟨b, off, none⟩ → W.heap.size ≤ b ∧ b < w.heap.size) :
    ShNew w0 ((w.setCell ⟨g, 0, none⟩ (.int .i64 x)).setCell ⟨g, 1, none⟩ (.slice A L.length c)) g x A c L := by
  have hl := hR.lt
  refine ⟨shcell_fill (hR.below hb) x _, nats_set2 hN (fun b off e => by have := hO b off e; omega), hS, fun b off e => ?_, hg, below_set2 (below_trans hW hb) hg _ _⟩
  rw [size_set2]
  have := hO b off e
  have := hW.size
  omega
theorem ShNew.late {w0 w : World} {x : Int} {A : Option Addr} {c : Nat} {L : List Nat} (hb : Below w0.heap.size w0 w) (hN : NatsAt w A L) (hS : SlOK A c L) (hO : ∀ b off, A = some ⟨b, off, none⟩ → w0.heap.size ≤ b ∧ b < w.heap.size) :
    ShNew w0 (w.alloc (.cells #[.int .i64 x, .slice A L.length c] 53)) w.heap.size x A c L :=
  ⟨ShCell.new _ _ rfl, hN.below (below_alloc _ _), hS, fun b off e => by rw [size_alloc]; have := hO b off e; omega, hb.size, bl_alloc _ hb⟩
theorem gen_last {α : Type} {f : α → World → Prop} {a : α} {w : World} (h : ∀ w', w' = w → f a w') : f a w := h w rfl

/-! ### Lists of shares under way -/
structure RowsV (Q : Nat → Prop) (w : World) (base : Nat) (v : Value) (S : List Shr) : Prop where
  ex : ∃ H : List HV, HvOwn w base v H ∧ H.length = S.length ∧ ∀ k, k < S.length → (hvAt H k).1 = hS S k ∧ ∃ B c, (hvAt H k).2 = .slice B (vS S k).length c ∧ IntsP (fun b => Q b ∧ v.ownBlock ≠ some b) w B c (vS S k)
theorem RowsV.nil (Q : Nat → Prop) (w : World) (base : Nat) : RowsV Q w base (.slice none 0 0) [] := ⟨[], HvOwn.nil _ _, rfl, fun k hk => absurd hk (by simp)⟩
theorem RowsV.kept {Q : Nat → Prop} {w w' : World} {base : Nat} {v : Value} {S : List Shr} {row : Option Nat} (h : RowsV Q w base v S) (hg : w.grownBy w' row) (h1 : v.ownBlock = none ∨ v.ownBlock ≠ row) (h2 : ∀ b, Q b → row ≠ some b) : RowsV Q w' base v S := by
  obtain ⟨H, e1, e2, e3⟩ := h.ex
  refine ⟨H, e1.kept hg h1, e2, fun k hk => ?_⟩
  obtain ⟨f1, B, c, f2, f3⟩ := e3 k hk
  exact ⟨f1, B, c, f2, f3.keep ⟨hg.size, fun b hb hlt => hg.block b hlt (fun e => h2 b hb.1 e.symm)⟩⟩
theorem RowsV.below {Q : Nat → Prop} {w w' : World} {base : Nat} {v : Value} {S : List Shr} (h : RowsV Q w base v S) (hb : Below w.heap.size w w') : RowsV Q w' base v S := by
  obtain ⟨H, e1, e2, e3⟩ := h.ex
  refine ⟨H, e1.below hb, e2, fun k hk => ?_⟩
  obtain ⟨f1, B, c, f2, f3⟩ := e3 k hk
  exact ⟨f1, B, c, f2, f3.keep (Kept.below hb)⟩
theorem RowsV.more {Q : Nat → Prop} {w w' : World} {base : Nat} {v v' : Value} {H : List HV} {S : List Shr} (e2 : H.length = S.length)
    (e3 : ∀ k, k < S.length → (hvAt H k).1 = hS S k ∧ ∃ B c, (hvAt H k).2 = .slice B (vS S k).length c ∧ IntsP (fun b => Q b ∧ v.ownBlock ≠ some b) w B c (vS S k))
    (x : Int) (L : List Int) {B : Option Addr} {c : Nat} (hI : IntsP (fun b => Q b ∧ v.ownBlock ≠ some b) w B c L) (hown : HvOwn w' base v' (H ++ [(x, .slice B L.length c)])) (hg : w.grownBy w' v.ownBlock)
    (hv : v'.ownBlock = v.ownBlock ∨ v'.ownBlock = some w.heap.size) : RowsV Q w' base v' (S ++ [(x, L)]) := by
  have key : ∀ {B : Option Addr} {c : Nat} {L : List Int}, IntsP (fun b => Q b ∧ v.ownBlock ≠ some b) w B c L → IntsP (fun b => Q b ∧ v'.ownBlock ≠ some b) w' B c L := fun hI =>
    ((hI.mono (Q := fun b => (Q b ∧ v'.ownBlock ≠ some b) ∧ v.ownBlock ≠ some b) (fun b hlt hb => ⟨⟨hb.1, fun e => by
      rcases hv with h | h
      · exact hb.2 (h ▸ e)
      · rw [h] at e; injection e with e; omega⟩, hb.2⟩)).keep (w' := w') ⟨hg.size, fun b hb hlt => hg.block b hlt (fun e => hb.2 e.symm)⟩).mono (fun b _ hb => hb.1)
  refine ⟨_, hown, by simp [e2], fun k hk => ?_⟩
  rcases Nat.lt_or_ge k S.length with h | h
  · obtain ⟨f1, B', c', f2, f3⟩ := e3 k h
    rw [hvAt_append (by omega), (hS_append h).1, (hS_append h).2]
    exact ⟨f1, B', c', f2, key f3⟩
  · obtain rfl : k = S.length := by simp at hk; omega
    rw [hS_last.1, hS_last.2]
    rw [show S.length = H.length from e2.symm, hvAt_last]
    exact ⟨rfl, B, c, rfl, key hI⟩
theorem RowsV.read {Q : Nat → Prop} {w : World} {base : Nat} {v : Value} {S : List Shr} (h : RowsV Q w base v S) : ∃ A c, v = .slice A S.length c ∧ ShP (fun b => base ≤ b ∨ Q b) w A c S := by
  obtain ⟨H, e1, e2, e3⟩ := h.ex
  rcases Nat.eq_zero_or_pos S.length with h0 | h0
  · have : S = [] := List.eq_nil_of_length_eq_zero h0
    subst this
    have hH : H = [] := List.eq_nil_of_length_eq_zero e2
    subst hH
    rcases e1.2 with ⟨rfl, -⟩ | ⟨g, cap, cur, rfl, hg, hh, hnc, hcm, hcs, htk⟩
    · exact ⟨none, 0, rfl, ShP.nil _ _⟩
    · exact ⟨_, cap, rfl, fun k hk => absurd hk (by simp), ⟨Nat.zero_le _, hcm, (fun e => by cases e), .inl rfl⟩⟩
  · obtain ⟨g, c, rfl, hg, hbg, hlc, hcm, hcell, -⟩ := e1.form (by rw [e2]; exact h0)
    refine ⟨some ⟨g, 0, none⟩, c, by rw [e2], fun k hk => ?_, ⟨by rw [← e2]; exact hlc, hcm, (fun e => by cases e), .inr (fun a e => by injection e with e; subst e; rfl)⟩⟩
    obtain ⟨f1, B, c', f2, f3⟩ := e3 k hk
    obtain ⟨c1, c2⟩ := hcell k (by rw [e2]; exact hk)
    refine ⟨g, 0, B, c', rfl, hg, .inl hbg, ?_, ?_, f3.mono (fun b _ hb => .inr hb.1)⟩
    · rw [Nat.zero_add, c1, f1]
    · rw [Nat.zero_add, c2, f2]
theorem ShNew.ints {wr w9 W : World} {base g : Nat} {x : Int} {v : Value} {A : Option Addr} {c : Nat} {L : List Nat} {S : List Shr} (h : ShNew wr w9 g x A c L) (hR : RowsV (fun b => base ≤ b) wr base v S) (hb : base ≤ wr.heap.size) (hw : Below w9.heap.size w9 W) :
    IntsP (fun b => base ≤ b ∧ v.ownBlock ≠ some b) W A c (ofN L) := by
  obtain ⟨H, e1, -, -⟩ := hR.ex
  refine ⟨(h.nats.below hw).ints, by rw [len_ofN]; exact h.ok.iok, fun b off e => .inr ⟨by have := h.off b off e; omega, fun e2 => ?_⟩⟩
  have := (World.ownsRow.lt e1 b e2).2
  have := h.off b off e
  omega
/-- One share more, that lies in a variable. -/
theorem RowsV.put {wr w9 W w4 : World} {base g : Nat} {x : Nat} {v v4 : Value} {A : Option Addr} {c : Nat} {L : List Nat} {T T' : List ShN} {H : List HV} (hR : RowsV (fun b => base ≤ b) wr base v (shL T)) (hN : ShNew wr w9 g x A c L) (hb : base ≤ wr.heap.size) (hW : W = w9.alloc (.cells #[.int .i64 (x : Int), .slice A L.length c] 53))
    (hH : HvOwn W base v H ∧ H.length = (shL T).length ∧ ∀ k, k < (shL T).length → (hvAt H k).1 = hS (shL T) k ∧ ∃ B c, (hvAt H k).2 = .slice B (vS (shL T) k).length c ∧ IntsP (fun b => base ≤ b ∧ v.ownBlock ≠ some b) W B c (vS (shL T) k))
    (hown : HvOwn w4 base v4 (H ++ [((x : Int), .slice A L.length c)])) (hg : W.grownBy w4 v.ownBlock) (hv : v4.ownBlock = v.ownBlock ∨ v4.ownBlock = some W.heap.size) (hT : T' = T ++ [(x, L)]) : RowsV (fun b => base ≤ b) w4 base v4 (shL T') := by
  subst hW hT
  rw [show shL (T ++ [(x, L)]) = shL T ++ [((x : Int), ofN L)] from by simp [shL, shI]]
  exact RowsV.more hH.2.1 hH.2.2 x (ofN L) (hN.ints hR hb (below_alloc _ _)) (by rw [len_ofN]; exact hown) hg hv
end Go.Proofs.YtlhipgejiacklaaDoor
