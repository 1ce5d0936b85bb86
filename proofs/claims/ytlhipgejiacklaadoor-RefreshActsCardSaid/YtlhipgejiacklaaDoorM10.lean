/-
  Refresh: pieces of RefreshActs' walk.
  RefreshActs: the walk.
  A slice of numbers that came in reads as a list.
  Lists of numbers that came in, with what is known of their room.
  A slice of shares that came in reads as a list of shares.
  Conditions: those that each theorem names.
-/
import Derived.Test.YtlhipgejiacklaaDoorM9
import Derived.Deep.SlicePairs
import Derived.ChangeArms
import Derived.OpenShut
set_option linter.unusedVariables false
set_option linter.unusedSimpArgs false
namespace Go.Proofs.YtlhipgejiacklaaDoor
open Go.RowKit

theorem refZero_made (p n h m j : Nat) (P : PlanN p n h) (hm : m ≤ 2048) (B : Option Addr) (cb : Nat) (ran : List Nat) (w : World) (hR : NatsAt w B ran) (hok : SlOK B cb ran) (hl2 : ran.length ≤ 1048576) (hr : ∀ x ∈ ran, x < p) (hl : ran.length = m * (n - 1)) (hj : j = ran.length) :
    Calls Tryd.prog 35 #[planV p n h, .int .i64 (m : Int), .slice B j cb] w (DealR (dealN p n h (List.replicate m 0) ran) h w) := by
  subst hj
  have := refZero_deal p n h m P hm B cb (ofN ran) w hR.ints (by rw [len_ofN]; exact hok.iok) (by rw [len_ofN]; exact hl2)
  obtain ⟨e1, e2⟩ := dlE_made P hm hr hl
  rw [e1, e2, len_ofN] at this
  refine this.mono ?_
  rintro e w' ⟨A', c', rfl, h1, h2⟩
  exact ⟨A', c', by rw [shL_len, deal_len], h1, h2⟩
theorem iok_lit (g n : Nat) (h : n ≤ 1000) : IOK (some ⟨g, 0, none⟩) n n := ⟨Nat.le_refl _, by unfold maxLen; omega, (fun e => by cases e), .inr (fun a e => by injection e with e; subst e; rfl)⟩
theorem lists_three {w : World} {g c1 c2 c3 k1 k2 k3 : Nat} {A1 A2 A3 : Option Addr} {S1 S2 S3 : List Shr} {P1 P2 P3 : Nat → Prop} (hg : w.heap[g]? = some (.cells #[.slice A1 k1 c1, .slice A2 k2 c2, .slice A3 k3 c3] 31 (0, 0)))
    (e1 : k1 = S1.length) (e2 : k2 = S2.length) (e3 : k3 = S3.length) (h1 : ShP P1 w A1 c1 S1) (h2 : ShP P2 w A2 c2 S2) (h3 : ShP P3 w A3 c3 S3) : ListsP (fun _ => True) w (some ⟨g, 0, none⟩) 3 [S1, S2, S3] := by
  subst e1 e2 e3
  have hlt := blk_lt hg
  refine ⟨fun k hk => ?_, iok_lit g 3 (by omega)⟩
  have : k = 0 ∨ k = 1 ∨ k = 2 := by simp at hk; omega
  rcases this with rfl | rfl | rfl
  · exact ⟨g, 0, A1, c1, rfl, hlt, trivial, by rw [cell_of_row w g _ _ _ (0, 0) hg]; rfl, h1.any⟩
  · exact ⟨g, 0, A2, c2, rfl, hlt, trivial, by rw [cell_of_row w g _ _ _ (0, 0) hg]; rfl, h2.any⟩
  · exact ⟨g, 0, A3, c3, rfl, hlt, trivial, by rw [cell_of_row w g _ _ _ (0, 0) hg]; rfl, h3.any⟩
theorem lists_one {w : World} {g c1 k1 : Nat} {A1 : Option Addr} {S1 : List Shr} {P1 : Nat → Prop} (hg : w.heap[g]? = some (.cells #[.slice A1 k1 c1] 31 (0, 0)))
    (e1 : k1 = S1.length) (h1 : ShP P1 w A1 c1 S1) : ListsP (fun _ => True) w (some ⟨g, 0, none⟩) 1 [S1] := by
  subst e1
  have hlt := blk_lt hg
  refine ⟨fun k hk => ?_, iok_lit g 1 (by omega)⟩
  have : k = 0 := by simp at hk; omega
  subst this
  exact ⟨g, 0, A1, c1, rfl, hlt, trivial, by rw [cell_of_row w g _ _ _ (0, 0) hg]; rfl, h1.any⟩
theorem lists_nil (w : World) : ListsP (fun _ => True) w none 0 [] := ⟨fun k hk => absurd hk (by simp), IOK.none0⟩
theorem shortLs_three {S1 S2 S3 : List Shr} (h1 : Short S1 ∧ S1.length ≤ 100000) (h2 : Short S2 ∧ S2.length ≤ 100000) (h3 : Short S3 ∧ S3.length ≤ 100000) : ShortLs [S1, S2, S3] := fun k hk => by
  have : k = 0 ∨ k = 1 ∨ k = 2 := by simp at hk; omega
  rcases this with rfl | rfl | rfl
  · exact h1
  · exact h2
  · exact h3
theorem shortLs_one {S1 : List Shr} (h1 : Short S1 ∧ S1.length ≤ 100000) : ShortLs [S1] := fun k hk => by
  have : k = 0 := by simp at hk; omega
  subst this; exact h1
theorem shortLs_nil : ShortLs [] := fun k hk => absurd hk (by simp)
theorem short_nil : Short ([] : List Shr) := fun k hk => absurd hk (by simp)
theorem sumR_ok {p h : Nat} : ∀ (r : List (List Shr)) (S : List Shr), (Short S ∧ S.length ≤ 100000) → (∀ Z ∈ r, Short Z) → Short (sumR p h S r).1 ∧ (sumR p h S r).1.length ≤ 100000
  | [], S, hS, _ => hS
  | Z :: r, S, hS, hr => by
    unfold sumR
    by_cases he : aE p h S Z = 0
    · rw [if_pos he]
      exact sumR_ok r _ ⟨aT_short hS.1 (hr Z (by simp)), by rw [aT_len he]; exact hS.2⟩ (fun Y hY => hr Y (by simp [hY]))
    · rw [if_neg he]; exact ⟨short_nil, by simp⟩
theorem su_ok {p h : Nat} {Ls : List (List Shr)} (hs : ShortLs Ls) : Short (suL p h Ls) ∧ (suL p h Ls).length ≤ 100000 := by
  unfold suL
  split
  · exact ⟨short_nil, by simp⟩
  · rename_i h0
    split
    · refine sumR_ok _ _ (hs 0 (by omega)) fun Z hZ => ?_
      obtain ⟨j, hj, rfl⟩ := List.getElem_of_mem hZ
      have hj' : 1 + j < Ls.length := by rw [List.length_drop] at hj; omega
      have := (hs (1 + j) hj').1
      rw [List.getElem_drop]
      unfold lsAt at this
      rw [List.getD_eq_getElem?_getD, List.getElem?_eq_getElem hj'] at this
      exact this
    · exact ⟨short_nil, by simp⟩
theorem su_nil (p h : Nat) : suE p h [] = 5 ∧ suL p h [] = [] := ⟨if_pos rfl, if_pos rfl⟩
theorem zr_ok {p n h : Nat} {k : Int} {ran : List Int} : Short (shL (zrL p n h k ran)) ∧ (shL (zrL p n h k ran)).length ≤ 100000 := by
  unfold zrL
  split
  · exact ⟨fun k hk => absurd hk (by simp [shL]), by simp [shL]⟩
  · refine ⟨dlL_short (by rw [len_ofN, List.length_replicate]; omega), ?_⟩
    rw [shL_len]
    have := dlL_len (p := p) (n := n) (h := h) (sec := ofN (List.replicate k.toNat 0)) (ran := ran)
    omega
theorem at_ok {p h : Nat} {S Z : List Shr} (hS : Short S) (hZ : Short Z) (hl : S.length ≤ 100000) : Short (shL (aT p h S Z)) ∧ (shL (aT p h S Z)).length ≤ 100000 := by
  refine ⟨aT_short hS hZ, ?_⟩
  by_cases he : aE p h S Z = 0
  · rw [aT_len he]; exact hl
  · unfold aT; rw [if_neg he]; simp [shL]
theorem sameR {P P' : Nat → Prop} (A A' : Option Addr) (S : List Shr) (c c' k k' : Nat) (w : World) (hA : ShP P w A c S) (hA' : ShP P' w A' c' S) (hsh : Short S) (hl : S.length ≤ 100000) (hk : k = S.length) (hk' : k' = S.length) :
    Calls Tryd.prog 30 #[.slice A k c, .slice A' k' c'] w (RetB (.bool true) w) := same_sh A A' S c c' k k' w hA hA' hsh (by omega) hk hk'
end Go.Proofs.YtlhipgejiacklaaDoor
namespace Go.Proofs.YtlhipgejiacklaaDoor
open Go.RowKit

attribute [local go_sem high] sliced_low
set_option maxRecDepth 100000 in
set_option maxHeartbeats 8000000 in
theorem refreshActs_walk (A0 : Option Addr) (L0 : List Int) (c0 : Nat) (RA : Option Addr) (RS : List Shr) (rc : Nat) (cnt : Int) (A2 : Option Addr) (L2 : List Int) (c2 : Nat) (w : World) (hB : Bases w) (hl0 : L0.length ≤ maxLen) (hI0 : IntsAt w A0 L0) (_ : ∀ n ∈ L0, -9223372036854775808 ≤ n ∧ n ≤ 9223372036854775807)
    (hrl : RS.length ≤ maxLen) (hRS : ShP (fun _ => True) w RA rc RS) (_ : -9223372036854775808 ≤ cnt ∧ cnt ≤ 9223372036854775807) (hok2 : IOK A2 c2 L2.length) (hI2 : IntsAt w A2 L2) (_ : ∀ n ∈ L2, -9223372036854775808 ≤ n ∧ n ≤ 9223372036854775807) :
    Calls Tryd.prog 7 #[.slice A0 L0.length c0, .slice RA RS.length rc, .int .i64 cnt, .slice A2 L2.length c2] w (RetB (.bool true) w) := by
  have HB := Lib.hid hB
  clear hB
  by_cases hlight : (L0.length : Int) ≤ 500
  · have hL := light_any A0 L0.length c0 w
    rw [decide_eq_true hlight] at hL
    have HLt := Lib.hid hL
    clear hL hlight
    have hsm := small_any RA rc RS w hRS hrl
    cases hsb : smB RS with
    | false =>
      rw [hsb] at hsm
      have HSM := Lib.hid hsm
      clear hsm hsb
      go_enter Tryd.func7, Tryd.ntmps7
      go_wp2_with fail
      refine ret_pure HLt.out ?_
      go_wp2_with fail
      refine ret_below HSM.out ?_
      intro w1 hb1
      go_wp2_with fail
      refine ret_below (awake8 _ (HB.out.keep hb1)) ?_
      intro w2 hb2
      go_wp2_with fail
      go_ret
      exact RetB.bool rfl (below_trans hb1 hb2)
    | true =>
      rw [hsb] at hsm
      have HSM := Lib.hid hsm
      obtain ⟨hr12, hrW⟩ := smB_of hsb
      have HRW := Lib.hid hrW
      have HRS := Lib.hid hRS
      clear hsm hsb hrW hRS hrl
      by_cases hl10 : (60 : Int) < (L2.length : Int)
      · have t10 : decide ((60 : Int) < (L2.length : Int)) = true := decide_eq_true hl10
        go_enter Tryd.func7, Tryd.ntmps7
        go_wp2_with fail
        refine ret_pure HLt.out ?_
        go_wp2_with fail
        refine ret_below HSM.out ?_
        intro w1 hb1
        go_wp2_with fail
        refine ret_below (awake8 _ (HB.out.keep hb1)) ?_
        intro w2 hb2
        go_wp2_with fail
        go_ret
        exact RetB.bool rfl (below_trans hb1 hb2)
      · have t10 : decide ((60 : Int) < (L2.length : Int)) = false := decide_eq_false hl10
        have hl2 : L2.length ≤ 60 := by omega
        have HI2 := Lib.hid hI2
        have HK2 := Lib.hid hok2
        clear hI2 hok2
        go_enter Tryd.func7, Tryd.ntmps7
        go_wp2_with fail
        refine ret_pure HLt.out ?_
        clear HLt
        go_wp2_with fail
        refine ret_below HSM.out ?_
        intro w0 hb0
        clear HSM
        go_wp2_with fail
        refine (roll_any A0 L0 c0 _ hl0 (hI0.below hb0)).mono ?_
        rintro e w1 ⟨D, rfl, hDs, hD, hb1⟩
        have hDw : w.heap.size ≤ D := Nat.le_trans hb0.size hDs
        have hE1 : Env w w1 D L0 := ⟨hD, hDw, below_trans hb0 hb1⟩
        have HR : Hid (ShP (· ≠ D) w1 RA rc RS) := Lib.hid ((HRS.out.mono (Q := (· ≠ D)) (fun b hb _ => by omega)).below hE1.below)
        have HI : Hid (IntsP (· ≠ D) w1 A2 c2 L2) := Lib.hid ⟨HI2.out.below hE1.below, HK2.out, fun b off e => by
          rcases Nat.eq_zero_or_pos L2.length with h0 | h0
          · exact .inl h0
          · obtain ⟨b2, off2, e2, hlt2, -⟩ := HI2.out 0 h0
            rw [e2] at e; injection e with e; injection e with e; exact .inr (by omega)⟩
        clear hI0 hD hb1 hb0 HRS HI2 HK2 hDs t10 hl10
        go_wp2_with fail
        refine (prime_any D L0 _ hE1.dice).mono ?_
        rintro e w2 ⟨p, rfl, hpp, hp5, -, hD2, hg2⟩
        have hE2 := hE1.next hD2 hg2
        have h2 := hpp.1
        have h1 : 1 ≤ p := by omega
        have hp2 : p ≤ 2147483648 := by omega
        have HPP := Lib.hid hpp
        replace HR := Lib.hid (HR.out.mv hg2)
        replace HI := Lib.hid (HI.out.keep (Kept.mv hg2))
        clear hg2 hD2 hE1 hpp
        go_wp2_with fail
        refine (plan_any D _ p _ hE2.dice h2 hp2).mono ?_
        rintro e w3 ⟨n, h, R3, rfl, ⟨hn1, hnh, hh7, hhp⟩, hD3, hg3⟩
        have hE3 := hE2.next hD3 hg3
        have HPN := Lib.hid (PlanN.mk' HPP.out (by omega) hn1 hnh hh7 hhp)
        replace HR := Lib.hid (HR.out.mv hg3)
        replace HI := Lib.hid (HI.out.keep (Kept.mv hg3))
        clear hD3 hg3 hE2
        go_wp2_with fail
        refine gen_calls fun w4 hw4 => ?_
        have hb4 : Below w3.heap.size w3 w4 := by rw [hw4]; exact below_alloc _ _
        have HP : Hid (PlanCell w4 w3.heap.size p n h) := Lib.hid (by rw [hw4]; exact PlanCell.new _ _ _ rfl)
        have hE : Env w w4 D R3 := hE3.mv hb4
        replace HR := Lib.hid (HR.out.below hb4)
        replace HI := Lib.hid (HI.out.keep (Kept.below hb4))
        have hxD : w3.heap.size ≠ D := by have := hE3.lt; omega
        clear hw4 hb4 hE3
        generalize w3.heap.size = px at *
        refine (dealt_any D R3 p n h 2 w4 hE.dice HPN.out (by omega) (by omega)).mono ?_
        rintro e w5 ⟨SA, sac, sec, LA, lc, ran, R5, rfl, hdl, -, hLP, hD5, hg5⟩
        replace hE := hE.next hD5 hg5
        replace HP := Lib.hid (HP.out.mv hg5 hxD)
        replace HR := Lib.hid (HR.out.mv hg5)
        replace HI := Lib.hid (HI.out.keep (Kept.mv hg5))
        have HL := Lib.hid hLP
        have HMD := Lib.hid (deal_Made HPN.out hdl.sp hdl.rp)
        have hsl := hdl.hi
        have hslo := hdl.lo
        have HNL : Hid ((dealN p n h sec ran).length = h) := Lib.hid (deal_len p n h sec ran)
        clear hdl hLP hD5 hg5
        generalize dealN p n h sec ran = N at *
        have HWN : Hid (Wide 2 (shL N)) := Lib.hid (HMD.out.wide hsl)
        have HV0 : Hid ((vN N 0).length = sec.length) := Lib.hid (HMD.out.vlen (by rw [HNL.out]; omega))
        obtain ⟨b2, off2, B2, c2', rfl, hb2, hb2D, u0, u1, -, -⟩ := HL.out.nat (show 0 < N.length by rw [HNL.out]; omega)
        rw [Nat.zero_mul, Nat.add_zero, HV0.out] at u1
        have h00 : 0 < h := by omega
        have h01 : (0 : Int) < (h : Int) := by omega
        obtain ⟨rl, hrl⟩ : ∃ rl, rl = sec.length * (n - 1) := ⟨_, rfl⟩
        have hrl2 : rl ≤ 1048576 := by rw [hrl]; have := Nat.mul_le_mul hsl (show n - 1 ≤ 7 by omega); omega
        have HRN := Lib.hid (fun (W : World) => refRandom_nat p n h sec.length rl W hrl hn1 (by omega) (by omega))
        have HRL := Lib.hid hrl
        clear u0 hrl
        go_wp2_with fail
        clear u1 hb2 hb2D
        have p0 := HP.out.c0
        have p1 := HP.out.c1
        have p2 := HP.out.c2
        go_region_held3 (fun w' => w'.cell? ⟨px, 0, none⟩ = some (.int .i64 (p : Int)) ∧ w'.cell? ⟨px, 1, none⟩ = some (.int .i64 (n : Int)) ∧ w'.cell? ⟨px, 2, none⟩ = some (.int .i64 (h : Int))) (first | go_keep)
          (first
            | (go_at_call 22; refine ret_below (HRN.out _) ?_; intro wa hb; have hba : Below w5.heap.size w5 wa := (below_undrew1 hb); replace hE := hE.mv hba; replace HP := Lib.hid (HP.out.below hba); replace HL := Lib.hid (HL.out.keep (Kept.below hba)); replace HR := Lib.hid (HR.out.keep (Kept.below hba)); replace HI := Lib.hid (HI.out.keep (Kept.below hba)); replace p0 := HP.out.c0; replace p1 := HP.out.c1; replace p2 := HP.out.c2)
            | (go_at_call 21; refine (elements_any D _ p rl _ hE.dice h1 hp2 hrl2).mono ?_; intro e wb he; obtain ⟨ZR, zr, ra, RR, rfl, hrnl, hrp, hRd, hDb, hgb⟩ := elems_held hE.lt he; have HRNL := Lib.hid hrnl; clear hrnl; replace hE := hE.next hDb hgb; replace HP := Lib.hid (HP.out.mv hgb hxD); replace HL := Lib.hid (HL.out.keep (Kept.mv hgb)); replace HR := Lib.hid (HR.out.keep (Kept.mv hgb)); replace HI := Lib.hid (HI.out.keep (Kept.mv hgb)); replace p0 := HP.out.c0; replace p1 := HP.out.c1; replace p2 := HP.out.c2)
            | (go_at_call 35; refine (refZero_made p n h sec.length _ HPN.out (by omega) ZR zr ra _ hRd.nats hRd.ok (by have := HRNL.out; omega) hrp (by exact HRNL.out.trans HRL.out) rfl).mono ?_; rintro e w6 ⟨ZA, zc, rfl, hZ, hbc⟩; have HZ := Lib.hid (hZ.away hE.lt); replace hE := hE.mv hbc; replace HP := Lib.hid (HP.out.below hbc); replace HL := Lib.hid (HL.out.keep (Kept.below hbc)); replace HR := Lib.hid (HR.out.keep (Kept.below hbc)); replace HI := Lib.hid (HI.out.keep (Kept.below hbc)); replace p0 := HP.out.c0; replace p1 := HP.out.c1; replace p2 := HP.out.c2))
        have HZM := Lib.hid (deal_Made HPN.out (sec := List.replicate sec.length 0) (fun x hx => by rw [(List.mem_replicate.1 hx).2]; omega) hrp)
        have HZL : Hid ((dealN p n h (List.replicate sec.length 0) ra).length = h) := Lib.hid (deal_len _ _ _ _ _)
        have HWZ : Hid (Wide 2 (shL (dealN p n h (List.replicate sec.length 0) ra))) := Lib.hid (HZM.out.wide (by rw [List.length_replicate]; exact hsl))
        clear he hRd hrp hDb hgb hba hbc hZ HRNL hb HRN HRL hrl2
        generalize dealN p n h (List.replicate sec.length 0) ra = Z at *
        go_wp2_with fail
        refine ret_pure (mod_any cnt 4 _ (by omega)) ?_
        obtain ⟨z4, hz4, hz4l⟩ : ∃ z4 : Int, z4 = modI cnt 4 ∧ True := ⟨_, rfl, trivial⟩
        rw [← hz4]
        clear hz4 hz4l p0 p1 p2
        go_wp2_with fail
        refine gen_world fun w7 hw7 => ?_
        have hb7 : Below w6.heap.size w6 w7 := by rw [hw7]; exact below_alloc _ _
        have HK4 : Hid (IntBlk w7 w6.heap.size [cnt, z4, 2049, -1]) := Lib.hid (by rw [hw7]; exact heap_alloc_new _ _)
        replace hE := hE.mv hb7; replace HP := Lib.hid (HP.out.below hb7); replace HL := Lib.hid (HL.out.keep (Kept.below hb7)); replace HR := Lib.hid (HR.out.keep (Kept.below hb7)); replace HI := Lib.hid (HI.out.keep (Kept.below hb7)); replace HZ := Lib.hid (HZ.out.keep (Kept.below hb7))
        clear hw7 hb7
        generalize w6.heap.size = gk at *
        go_loopw [91] (fun i wr => ∃ k : Nat, k ≤ 4 ∧ i = .int .i64 k ∧ Below w7.heap.size w7 wr) (fun i _ => 4 - (intOf i).toNat)
        case atStart => exact ⟨0, Nat.zero_le _, rfl, Below.refl _ _⟩
        case round =>
          obtain ⟨k, hk, rfl, hbr⟩ := hrel
          have hEr := hE.mv hbr
          have HPr := Lib.hid (HP.out.below hbr)
          by_cases hkl : k < 4
          · obtain ⟨bK, oK, hK1, hbK, hcK⟩ := (HK4.out.ints.below hbr) k hkl
            injection hK1 with hK1
            injection hK1 with hK1 hK2
            subst hK1 hK2
            rw [Nat.zero_add] at hcK
            have HIr := Lib.hid (HI.out.keep (Kept.below hbr))
            have HZ1 := Lib.hid (fun (z : Int) (W : World) (hb : Below wr.heap.size wr W) => zero_any p n h z HPN.out A2 c2 L2 W ((hEr.bases HB.out).keep hb) (HIr.out.keep (Kept.below hb)).ints HIr.out.ok (by omega))
            have HZ2 := Lib.hid (fun (z : Int) (W : World) (hb : Below wr.heap.size wr W) => refZero_any p n h z HPN.out A2 c2 L2 W (HIr.out.keep (Kept.below hb)).ints HIr.out.ok (by omega))
            generalize nth [cnt, z4, 2049, -1] k = z at *
            obtain ⟨hzs, hzl⟩ := zr_ok (p := p) (n := n) (h := h) (k := z) (ran := L2)
            replace HZ1 := Lib.hid (HZ1.out z)
            replace HZ2 := Lib.hid (HZ2.out z)
            have HZS := Lib.hid hzs
            generalize shL (zrL p n h z L2) = ZS at *
            generalize zrE p n h z L2 = ze at *
            have j1 : (0 : Int) ≤ (k : Int) := by omega
            have j2 : (k : Int) < 4 := by omega
            have q0 := HPr.out.c0
            have q1 := HPr.out.c1
            have q2 := HPr.out.c2
            clear hzs
            go_wp2_with fail
            refine (HZ1.out _ (Below.refl _ _)).mono ?_
            rintro e wa ⟨XA, xc, rfl, hX, hba⟩
            have HX := Lib.hid hX
            have HPa := Lib.hid (HPr.out.below hba)
            have y0 := HPa.out.c0
            have y1 := HPa.out.c1
            have y2 := HPa.out.c2
            clear hX q0 q1 q2
            go_wp2_with fail
            refine (HZ2.out _ hba).mono ?_
            rintro e wb ⟨YA, yc, rfl, hY, hbb⟩
            replace HX := Lib.hid (HX.out.below hbb)
            have HY := Lib.hid hY
            have hbab := below_trans hba hbb
            have her : (ze != ze) = false := by simp
            clear hY y0 y1 y2
            go_wp2_with fail
            refine ret_below (sameR XA YA ZS xc yc _ _ _ HX.out HY.out HZS.out hzl rfl rfl) ?_
            intro wc hbc
            have HBC := Lib.hid (hbr.trans ((below_trans hbab hbc).mono hbr.size))
            clear hba hbb hbab hbc
            go_wp2_with fail
            go_roundw
            case rel => exact ⟨k + 1, by omega, by go_num, HBC.out⟩
            case measure => simp [intOf]; omega
          · obtain rfl : k = 4 := by omega
            obtain ⟨w8, hw8⟩ : ∃ w8 : World, w8 = wr := ⟨_, rfl⟩
            rw [← hw8] at hEr HPr hbr
            rw [← hw8]
            clear hw8
            replace HL := Lib.hid (HL.out.keep (Kept.below hbr))
            replace HR := Lib.hid (HR.out.keep (Kept.below hbr))
            replace HZ := Lib.hid (HZ.out.keep (Kept.below hbr))
            have hE := hEr
            clear hEr HP hbr HI HK4
            have HP := HPr
            clear HPr
            go_wp2_with fail
            refine (oddN D 2 _ ZA zc h Z _ hE.dice HZ.out HWZ.out (by omega) (by rw [HZL.out]; omega) HZL.out.symm).mono ?_
            intro e w9 he
            obtain ⟨OAa, oca, Sa, Ra, rfl, hSa, hla, hWa, hDa, hga⟩ := he.open_
            rw [shL_len, HZL.out] at hla
            have HSa := Lib.hid hSa
            have HWa := Lib.hid hWa
            replace hE := hE.next hDa hga; replace HP := Lib.hid (HP.out.mv hga hxD); replace HL := Lib.hid (HL.out.keep (Kept.mv hga)); replace HR := Lib.hid (HR.out.keep (Kept.mv hga)); replace HZ := Lib.hid (HZ.out.keep (Kept.mv hga))
            clear he hSa hWa hDa hga
            go_wp2_with fail
            refine (turnZ D _ ZA zc h Z _ hE.dice HZ.out (HWZ.out.short (by omega)) (by rw [HZL.out]; omega) HZL.out.symm).mono ?_
            rintro e w10 ⟨TAb, tcb, Mb, Rb, rfl, htp, htl, -, hTS, hDb, hgb⟩
            have HSb : Hid (ShP (· ≠ D) w10 TAb tcb (shL Mb)) := Lib.hid hTS
            have HWb : Hid (Wide 2 (shL Mb)) := Lib.hid ((HZM.out.part htp).wide (by first | exact hsl | (rw [List.length_replicate]; exact hsl)))
            have hlb : Mb.length ≤ h := by rw [HZL.out] at htl; exact htl
            replace hE := hE.next hDb hgb; replace HP := Lib.hid (HP.out.mv hgb hxD); replace HL := Lib.hid (HL.out.keep (Kept.mv hgb)); replace HR := Lib.hid (HR.out.keep (Kept.mv hgb)); replace HZ := Lib.hid (HZ.out.keep (Kept.mv hgb)); replace HSa := Lib.hid (HSa.out.keep (Kept.mv hgb))
            clear htp htl hTS hDb hgb
            go_wp2_with fail
            refine (turnZ D _ (some ⟨b2, off2, none⟩) lc h N _ hE.dice HL.out (HWN.out.short (by omega)) (by rw [HNL.out]; omega) HNL.out.symm).mono ?_
            rintro e w11 ⟨TAc, tcc, Mc, Rc, rfl, htp, htl, -, hTS, hDc, hgc⟩
            have HSc : Hid (ShP (· ≠ D) w11 TAc tcc (shL Mc)) := Lib.hid hTS
            have HWc : Hid (Wide 2 (shL Mc)) := Lib.hid ((HMD.out.part htp).wide (by first | exact hsl | (rw [List.length_replicate]; exact hsl)))
            have hlc : Mc.length ≤ h := by rw [HNL.out] at htl; exact htl
            replace hE := hE.next hDc hgc; replace HP := Lib.hid (HP.out.mv hgc hxD); replace HL := Lib.hid (HL.out.keep (Kept.mv hgc)); replace HR := Lib.hid (HR.out.keep (Kept.mv hgc)); replace HZ := Lib.hid (HZ.out.keep (Kept.mv hgc)); replace HSa := Lib.hid (HSa.out.keep (Kept.mv hgc)); replace HSb := Lib.hid (HSb.out.keep (Kept.mv hgc))
            clear htp htl hTS hDc hgc
            go_wp2_with fail
            refine (oddN D 2 _ (some ⟨b2, off2, none⟩) lc h N _ hE.dice HL.out HWN.out (by omega) (by rw [HNL.out]; omega) HNL.out.symm).mono ?_
            intro e w12 he
            obtain ⟨OAd, ocd, Sd, Rd, rfl, hSd, hld, hWd, hDd, hgd⟩ := he.open_
            rw [shL_len, HNL.out] at hld
            have HSd := Lib.hid hSd
            have HWd := Lib.hid hWd
            replace hE := hE.next hDd hgd; replace HP := Lib.hid (HP.out.mv hgd hxD); replace HL := Lib.hid (HL.out.keep (Kept.mv hgd)); replace HR := Lib.hid (HR.out.keep (Kept.mv hgd)); replace HZ := Lib.hid (HZ.out.keep (Kept.mv hgd)); replace HSa := Lib.hid (HSa.out.keep (Kept.mv hgd)); replace HSb := Lib.hid (HSb.out.keep (Kept.mv hgd)); replace HSc := Lib.hid (HSc.out.keep (Kept.mv hgd))
            clear he hSd hWd hDd hgd
            go_wp2_with fail
            refine gen_world fun w13 hw13 => ?_
            have hb13 : Below w12.heap.size w12 w13 := by rw [hw13]; exact below_alloc _ _
            have HX : ∃ X : List SI, X.length = 5 ∧ SsAt (· ≠ D) w13 w12.heap.size X := ⟨_, rfl, SsAt.five (by rw [hw13]; exact heap_alloc_new _ _) (by rw [shL_len, HNL.out]) (by rw [shL_len]) rfl rfl rfl
              ⟨HL.out.below hb13, by rw [shL_len, HNL.out]; omega, HWN.out.mono (by omega)⟩ ⟨HSc.out.below hb13, by rw [shL_len]; omega, HWc.out.mono (by omega)⟩ ⟨HSd.out.below hb13, by omega, HWd.out.mono (by omega)⟩ ⟨HR.out.below hb13, by omega, HRW.out.mono (by omega)⟩ ⟨ShP.nil _ _, by simp, fun k hk => absurd hk (by simp)⟩⟩
            obtain ⟨X, hX5, hSS⟩ := HX
            have HSS := Lib.hid hSS
            replace hE := hE.mv hb13; replace HP := Lib.hid (HP.out.below hb13); replace HL := Lib.hid (HL.out.keep (Kept.below hb13)); replace HR := Lib.hid (HR.out.keep (Kept.below hb13)); replace HZ := Lib.hid (HZ.out.keep (Kept.below hb13)); replace HSa := Lib.hid (HSa.out.keep (Kept.below hb13)); replace HSb := Lib.hid (HSb.out.keep (Kept.below hb13)); replace HSc := Lib.hid (HSc.out.keep (Kept.below hb13)); replace HSd := Lib.hid (HSd.out.keep (Kept.below hb13))
            clear hw13 hb13 hSS HSc HSd HWc HWd
            generalize w12.heap.size = gl at *
            go_loopw [135] (fun i wr => ∃ k : Nat, k ≤ 5 ∧ i = .int .i64 k ∧ Below w13.heap.size w13 wr) (fun i _ => 5 - (intOf i).toNat)
            case atStart => exact ⟨0, Nat.zero_le _, rfl, Below.refl _ _⟩
            case round =>
              obtain ⟨k, hk, rfl, hbr⟩ := hrel
              have hEr := hE.mv hbr
              have HPr := Lib.hid (HP.out.below hbr)
              by_cases hkl : k < 5
              · obtain ⟨XA, xc, XS, y0, hXS, hXl, hXW⟩ := (HSS.out.below hbr).at_ k (by rw [hX5]; exact hkl)
                have HXS := Lib.hid hXS
                have HXW := Lib.hid hXW
                have i1 : (0 : Int) ≤ (k : Int) := by omega
                have i2 : (k : Int) < 5 := by omega
                clear hXS hXW
                go_wp2_with fail
                refine gen_world fun wa hwa => ?_
                have hba : Below wr.heap.size wr wa := by rw [hwa]; exact below_alloc _ _
                have HZa := Lib.hid ((HZ.out.below hbr).below hba)
                have HY : ∃ Y : List SI, Y.length = 5 ∧ SsAt (· ≠ D) wa wr.heap.size Y := ⟨_, rfl, SsAt.five (by rw [hwa]; exact heap_alloc_new _ _) (by rw [shL_len, HZL.out]) rfl (by rw [shL_len]) (by rw [shL_len, HNL.out]) rfl
                  ⟨HZa.out, by rw [shL_len, HZL.out]; omega, HWZ.out.mono (by omega)⟩ ⟨(HSa.out.below hbr).below hba, by omega, HWa.out.mono (by omega)⟩ ⟨(HSb.out.below hbr).below hba, by rw [shL_len]; omega, HWb.out.mono (by omega)⟩ ⟨(HL.out.below hbr).below hba, by rw [shL_len, HNL.out]; omega, HWN.out.mono (by omega)⟩ ⟨(HR.out.below hbr).below hba, by omega, HRW.out.mono (by omega)⟩⟩
                obtain ⟨Y, hY5, hSY⟩ := HY
                have HSY := Lib.hid hSY
                have hEa := hEr.mv hba
                have HPa := Lib.hid (HPr.out.below hba)
                have HXa := Lib.hid (HXS.out.below hba)
                have HBA := Lib.hid (hbr.trans (hba.mono hbr.size))
                clear hwa y0 hSY HXS HPr hEr hba hbr
                generalize wr.heap.size = gy at *
                go_loopw [146] (fun i wr => ∃ k2 : Nat, k2 ≤ 5 ∧ i = .int .i64 k2 ∧ Below wa.heap.size wa wr) (fun i _ => 5 - (intOf i).toNat)
                case atStart => exact ⟨0, Nat.zero_le _, rfl, Below.refl _ _⟩
                case round =>
                  obtain ⟨k2, hk2, rfl, hbr⟩ := hrel
                  have hEq := hEa.mv hbr
                  have HPq := Lib.hid (HPa.out.below hbr)
                  have HXq := Lib.hid (HXa.out.below hbr)
                  have HZq := Lib.hid (HZa.out.below hbr)
                  have hsX := HXW.out.short (show 30 ≤ 1048576 by omega)
                  have q0 := HPq.out.c0
                  have q1 := HPq.out.c1
                  have q2 := HPq.out.c2
                  have HBQ := Lib.hid hbr
                  by_cases hk2l : k2 < 5
                  · obtain ⟨YA, yc, YS, y0, hYS, hYl, hYW⟩ := (HSY.out.below hbr).at_ k2 (by rw [hY5]; exact hk2l)
                    have HYq := Lib.hid hYS
                    have hsY := hYW.short (show 30 ≤ 1048576 by omega)
                    have hsZ := HWZ.out.short (show 2 ≤ 1048576 by omega)
                    have HSLs := Lib.hid (shortLs_three (S1 := XS) (S2 := YS) (S3 := shL Z) ⟨hsX, by omega⟩ ⟨hsY, by omega⟩ ⟨hsZ, by rw [shL_len, HZL.out]; omega⟩)
                    have HA1 := Lib.hid (fun (W : World) (hb : Below wr.heap.size wr W) => apply_any p n h XA YA xc yc _ _ XS YS W HPN.out ((hEq.bases HB.out).keep hb) (HXq.out.below hb) (HYq.out.below hb) hsX hsY rfl rfl (by omega) (by omega))
                    have HA2 := Lib.hid (fun (W : World) (hb : Below wr.heap.size wr W) => refApply_any HPN.out XA YA xc yc _ _ XS YS W (HXq.out.below hb) (HYq.out.below hb) hsX hsY rfl rfl (by omega) (by omega))
                    have HU1 := Lib.hid (fun (W : World) (g : Nat) (hb : Below wr.heap.size wr W) (hg : W.heap[g]? = some (.cells #[.slice XA XS.length xc, .slice YA YS.length yc, .slice ZA h zc] 31 (0, 0))) => sum_any p n h (some ⟨g, 0, none⟩) 3 3 [XS, YS, shL Z] W HPN.out ((hEq.bases HB.out).keep hb) (lists_three hg rfl rfl (by rw [shL_len, HZL.out]) (HXq.out.below hb) (HYq.out.below hb) (HZq.out.below hb)) HSLs.out rfl (by simp))
                    have HU2 := Lib.hid (fun (W : World) (g : Nat) (hb : Below wr.heap.size wr W) (hg : W.heap[g]? = some (.cells #[.slice XA XS.length xc, .slice YA YS.length yc, .slice ZA h zc] 31 (0, 0))) => refSum_any p n h (some ⟨g, 0, none⟩) 3 3 [XS, YS, shL Z] W HPN.out (lists_three hg rfl rfl (by rw [shL_len, HZL.out]) (HXq.out.below hb) (HYq.out.below hb) (HZq.out.below hb)) HSLs.out rfl (by simp))
                    have HC1 := Lib.hid (fun (W : World) (hb : Below wr.heap.size wr W) => checks_any p n h YA yc YS W HPN.out.pv ((hEq.bases HB.out).keep hb) (HYq.out.below hb) hsY (by omega))
                    have HC2 := Lib.hid (fun (W : World) (hb : Below wr.heap.size wr W) => refChecks_any p n h YA yc YS W HPN.out.pv (HYq.out.below hb) hsY (by omega))
                    obtain ⟨haS, haL⟩ := at_ok (p := p) (h := h) hsX hsY (by omega)
                    obtain ⟨huS, huL⟩ := su_ok (p := p) (h := h) HSLs.out
                    have HAS := Lib.hid haS
                    have HUS := Lib.hid huS
                    generalize shL (aT p h XS YS) = AS at *
                    generalize aE p h XS YS = ae at *
                    generalize suL p h [XS, YS, shL Z] = US at *
                    generalize suE p h [XS, YS, shL Z] = ue at *
                    generalize ckB p n h YS = ck at *
                    have j1 : (0 : Int) ≤ (k2 : Int) := by omega
                    have j2 : (k2 : Int) < 5 := by omega
                    clear hYS hYW hsX hsY hsZ haS huS
                    go_wp2_with fail
                    refine (HA1.out _ (Below.refl _ _)).mono ?_
                    rintro e wb ⟨E1, e1, rfl, hX1, hb1⟩
                    have HX1 := Lib.hid hX1
                    have HPb := Lib.hid (HPq.out.below hb1)
                    clear hX1 q0 q1 q2
                    have q0 := HPb.out.c0
                    have q1 := HPb.out.c1
                    have q2 := HPb.out.c2
                    go_wp2_with fail
                    refine (HA2.out _ hb1).mono ?_
                    rintro e wc ⟨E2, e2, rfl, hX2, hb2'⟩
                    have hb12 := below_trans hb1 hb2'
                    have HX2 := Lib.hid hX2
                    replace HX1 := Lib.hid (HX1.out.below hb2')
                    have HPc := Lib.hid (HPb.out.below hb2')
                    clear hX2 q0 q1 q2 hb1 hb2' HPb HA1 HA2
                    have q0 := HPc.out.c0
                    have q1 := HPc.out.c1
                    have q2 := HPc.out.c2
                    go_wp2_with fail
                    refine gen_calls fun wd hwd => ?_
                    have hbd0 : Below wc.heap.size wc wd := by rw [hwd]; exact below_alloc _ _
                    have hgd : wd.heap[wc.heap.size]? = some (.cells #[.slice XA XS.length xc, .slice YA YS.length yc, .slice ZA h zc] 31 (0, 0)) := by rw [hwd]; exact heap_alloc_new _ _
                    have hbd := below_trans hb12 hbd0
                    replace HX1 := Lib.hid (HX1.out.below hbd0)
                    replace HX2 := Lib.hid (HX2.out.below hbd0)
                    have HPd := Lib.hid (HPc.out.below hbd0)
                    clear hwd q0 q1 q2 HPc
                    refine (HU1.out _ _ hbd hgd).mono ?_
                    rintro e we ⟨E3, e3, rfl, hX3, hb3⟩
                    have hbe := below_trans hbd hb3
                    have HX3 := Lib.hid hX3
                    replace HX1 := Lib.hid (HX1.out.below hb3)
                    replace HX2 := Lib.hid (HX2.out.below hb3)
                    have HPe := Lib.hid (HPd.out.below hb3)
                    clear hX3 hb3 hbd hbd0 hb12 HPd HU1 hgd
                    have q0 := HPe.out.c0
                    have q1 := HPe.out.c1
                    have q2 := HPe.out.c2
                    go_wp2_with fail
                    refine gen_calls fun wf hwf => ?_
                    have hbf0 : Below we.heap.size we wf := by rw [hwf]; exact below_alloc _ _
                    have hgf : wf.heap[we.heap.size]? = some (.cells #[.slice XA XS.length xc, .slice YA YS.length yc, .slice ZA h zc] 31 (0, 0)) := by rw [hwf]; exact heap_alloc_new _ _
                    have hbf := below_trans hbe hbf0
                    replace HX1 := Lib.hid (HX1.out.below hbf0)
                    replace HX2 := Lib.hid (HX2.out.below hbf0)
                    replace HX3 := Lib.hid (HX3.out.below hbf0)
                    have HPf := Lib.hid (HPe.out.below hbf0)
                    clear hwf q0 q1 q2 HPe
                    refine (HU2.out _ _ hbf hgf).mono ?_
                    rintro e wg ⟨E4, e4, rfl, hX4, hb4⟩
                    have hbg := below_trans hbf hb4
                    have HX4 := Lib.hid hX4
                    replace HX1 := Lib.hid (HX1.out.below hb4)
                    replace HX2 := Lib.hid (HX2.out.below hb4)
                    replace HX3 := Lib.hid (HX3.out.below hb4)
                    have HPg := Lib.hid (HPf.out.below hb4)
                    have q0 := HPg.out.c0
                    have q1 := HPg.out.c1
                    have q2 := HPg.out.c2
                    have lpx := HPg.out.lt
                    have t1 : (ae != ae) = false := by simp
                    have t2 : (ue != ue) = false := by simp
                    have t3 : (ck != ck) = false := by simp
                    have HSM2 := Lib.hid (fun (W : World) (A A' : Option Addr) (k k' c c' : Nat) (hb : Below wg.heap.size wg W) (hd : (A = E1 ∧ k = AS.length ∧ c = e1 ∧ A' = E2 ∧ k' = AS.length ∧ c' = e2) ∨ (A = E3 ∧ k = US.length ∧ c = e3 ∧ A' = E4 ∧ k' = US.length ∧ c' = e4)) =>
                      show Calls Tryd.prog 30 #[.slice A k c, .slice A' k' c'] W (RetB (.bool true) W) from by
                        rcases hd with ⟨rfl, rfl, rfl, rfl, rfl, rfl⟩ | ⟨rfl, rfl, rfl, rfl, rfl, rfl⟩
                        · exact sameR _ _ AS _ _ _ _ _ (HX1.out.below hb) (HX2.out.below hb) HAS.out haL rfl rfl
                        · exact sameR _ _ US _ _ _ _ _ (HX3.out.below hb) (HX4.out.below hb) HUS.out huL rfl rfl)
                    clear hX4 hb4 hbf hbf0 hbe HPf HU2 hgf
                    go_wp2_with fail
                    go_region_held3 (fun w' => w'.cell? ⟨px, 0, none⟩ = some (.int .i64 (p : Int)) ∧ w'.cell? ⟨px, 1, none⟩ = some (.int .i64 (n : Int)) ∧ w'.cell? ⟨px, 2, none⟩ = some (.int .i64 (h : Int))) (first | go_keep)
                      (first
                        | (go_at_call 30; refine ret_below (HSM2.out _ _ _ _ _ _ _ (by first | exact hbh' | exact below_drewT _) (by first | exact .inl ⟨rfl, rfl, rfl, rfl, rfl, rfl⟩ | exact .inr ⟨rfl, rfl, rfl, rfl, rfl, rfl⟩)) ?_; intro wh hbh; have hbh' : Below wg.heap.size wg wh := (by first | exact below_trans hbh' hbh | exact below_undrew1 hbh | exact hbh); have r0 := (hbh'.cell (p := ⟨px, 0, none⟩) lpx).trans q0; have r1 := (hbh'.cell (p := ⟨px, 1, none⟩) lpx).trans q1; have r2 := (hbh'.cell (p := ⟨px, 2, none⟩) lpx).trans q2)
                        | (go_at_call 23; refine ret_below (HC1.out _ (below_trans hbg hbh')) ?_; intro wj hbj; have hbj' : Below wg.heap.size wg wj := below_trans hbh' hbj; have u0 := (hbj'.cell (p := ⟨px, 0, none⟩) lpx).trans q0; have u1 := (hbj'.cell (p := ⟨px, 1, none⟩) lpx).trans q1; have u2 := (hbj'.cell (p := ⟨px, 2, none⟩) lpx).trans q2)
                        | (go_at_call 39; refine ret_below (HC2.out _ (below_trans hbg hbj')) ?_; intro wk hbk; have hbk' : Below wg.heap.size wg wk := below_trans hbj' hbk; have v0 := (hbk'.cell (p := ⟨px, 0, none⟩) lpx).trans q0; have v1 := (hbk'.cell (p := ⟨px, 1, none⟩) lpx).trans q1; have v2 := (hbk'.cell (p := ⟨px, 2, none⟩) lpx).trans q2))
                    all_goals
                      have HBK := Lib.hid (hbr.trans ((below_trans hbg hbk').mono hbr.size))
                      clear hbh hbh' hbj hbj' hbk hbk' q0 q1 q2 r0 r1 r2 u0 u1 u2 v0 v1 v2
                      go_wp2_with fail
                      go_roundw
                      case rel =>
                        first
                          | exact ⟨k2 + 1, by omega, by go_num, HBK.out⟩
                          | (repeat (apply Exists.intro)
                             refine And.intro ?_ rfl
                             exact ⟨k2 + 1, by omega, by go_num, HBK.out⟩)
                      case measure => simp [intOf]; omega
                  · obtain rfl : k2 = 5 := by omega
                    have HSLs := Lib.hid (shortLs_one (S1 := XS) ⟨hsX, by omega⟩)
                    have HU1 := Lib.hid (fun (W : World) (g : Nat) (hb : Below wr.heap.size wr W) (hg : W.heap[g]? = some (.cells #[.slice XA XS.length xc] 31 (0, 0))) => sum_any p n h (some ⟨g, 0, none⟩) 1 1 [XS] W HPN.out ((hEq.bases HB.out).keep hb) (lists_one hg rfl (HXq.out.below hb)) HSLs.out rfl (by simp))
                    have HU2 := Lib.hid (fun (W : World) (g : Nat) (hb : Below wr.heap.size wr W) (hg : W.heap[g]? = some (.cells #[.slice XA XS.length xc] 31 (0, 0))) => refSum_any p n h (some ⟨g, 0, none⟩) 1 1 [XS] W HPN.out (lists_one hg rfl (HXq.out.below hb)) HSLs.out rfl (by simp))
                    obtain ⟨huS, huL⟩ := su_ok (p := p) (h := h) HSLs.out
                    have HUS := Lib.hid huS
                    generalize suL p h [XS] = US at *
                    generalize suE p h [XS] = ue at *
                    clear hsX huS
                    go_wp2_with fail
                    refine gen_calls fun wd hwd => ?_
                    have hbd : Below wr.heap.size wr wd := by rw [hwd]; exact below_alloc _ _
                    have hgd : wd.heap[wr.heap.size]? = some (.cells #[.slice XA XS.length xc] 31 (0, 0)) := by rw [hwd]; exact heap_alloc_new _ _
                    have HPd := Lib.hid (HPq.out.below hbd)
                    clear hwd q0 q1 q2
                    refine (HU1.out _ _ hbd hgd).mono ?_
                    rintro e we ⟨E3, e3, rfl, hX3, hb3⟩
                    have hbe := below_trans hbd hb3
                    have HX3 := Lib.hid hX3
                    have HPe := Lib.hid (HPd.out.below hb3)
                    clear hX3 hb3 hbd HPd HU1 hgd
                    have q0 := HPe.out.c0
                    have q1 := HPe.out.c1
                    have q2 := HPe.out.c2
                    go_wp2_with fail
                    refine gen_calls fun wf hwf => ?_
                    have hbf0 : Below we.heap.size we wf := by rw [hwf]; exact below_alloc _ _
                    have hgf : wf.heap[we.heap.size]? = some (.cells #[.slice XA XS.length xc] 31 (0, 0)) := by rw [hwf]; exact heap_alloc_new _ _
                    have hbf := below_trans hbe hbf0
                    replace HX3 := Lib.hid (HX3.out.below hbf0)
                    clear hwf q0 q1 q2 HPe
                    refine (HU2.out _ _ hbf hgf).mono ?_
                    rintro e wg ⟨E4, e4, rfl, hX4, hb4⟩
                    have hbg := below_trans hbf hb4
                    have HX4 := Lib.hid hX4
                    replace HX3 := Lib.hid (HX3.out.below hb4)
                    have t2 : (ue != ue) = false := by simp
                    clear hX4 hb4 hbf hbf0 hbe HU2 hgf
                    go_wp2_with fail
                    refine ret_below (sameR E3 E4 US e3 e4 _ _ _ HX3.out HX4.out HUS.out huL rfl rfl) ?_
                    intro wh hbh
                    have HBK := Lib.hid (HBA.out.trans ((HBQ.out.trans ((below_trans hbg hbh).mono HBQ.out.size)).mono HBA.out.size))
                    clear hbh hbg hbr
                    go_wp2_with fail
                    go_roundw
                    case rel =>
                      first
                        | exact ⟨k + 1, by omega, by go_num, HBK.out⟩
                        | (repeat (apply Exists.intro)
                           refine And.intro ?_ rfl
                           exact ⟨k + 1, by omega, by go_num, HBK.out⟩)
                    case measure => simp [intOf]; omega
              · obtain rfl : k = 5 := by omega
                have HN1 := Lib.hid (show Calls Tryd.prog 24 #[planV p n h, .slice none 0 0] wr (ShErr [] 5 wr) from by
                  have := sum_any p n h none 0 0 [] wr HPN.out (hEr.bases HB.out) (lists_nil wr) shortLs_nil rfl (by simp)
                  rw [(su_nil p h).1, (su_nil p h).2] at this; exact this)
                have q0 := HPr.out.c0
                have q1 := HPr.out.c1
                have q2 := HPr.out.c2
                go_wp2_with fail
                refine HN1.out.mono ?_
                rintro e wa ⟨E1, e1, rfl, -, hba⟩
                have hEa := hEr.mv hba
                clear q0 q1 q2
                go_wp2_with fail
                refine ret_below (awake8 _ (hEa.bases HB.out)) ?_
                intro wz hbz
                go_wp2_with fail
                go_ret
                exact RetB.bool rfl (hEa.mv hbz).below
  · have hL := light_any A0 L0.length c0 w
    rw [decide_eq_false hlight] at hL
    have HLt := Lib.hid hL
    clear hL
    go_enter Tryd.func7, Tryd.ntmps7
    go_wp2_with fail
    refine ret_pure HLt.out ?_
    go_wp2_with fail
    refine ret_below (awake8 _ HB.out) ?_
    intro w1 hb1
    go_wp2_with fail
    go_ret
    exact RetB.bool rfl hb1
end Go.Proofs.YtlhipgejiacklaaDoor
namespace Go.Proofs.YtlhipgejiacklaaDoor
open Go.RowKit

theorem cell_block_lt {w : World} {a : Addr} {v : Value} (h : w.cell? a = some v) : a.block < w.heap.size := by
  rcases Nat.lt_or_ge a.block w.heap.size with hlt | hge
  · exact hlt
  · unfold World.cell? at h; simp [Array.getElem?_eq_none hge] at h
theorem open_row {W : World} {x : Addr} {len cap : Nat} {zs : List Int} (hl : len ≤ cap) (hm : cap ≤ maxLen) (hz : zs.length = cap) (hcell : ∀ i, i < zs.length → W.cell? (x.add i) = some (.int .i64 (zs.getD i 0)))
    (hb : ∀ n ∈ zs, -9223372036854775808 ≤ n ∧ n ≤ 9223372036854775807) :
    ∃ ys : List Int, ys.length = len ∧ ys.length ≤ maxLen ∧ IntsAt W (some x) ys ∧ ∀ n ∈ ys, -9223372036854775808 ≤ n ∧ n ≤ 9223372036854775807 := by
  refine ⟨zs.take len, by simp; omega, by simp; omega, fun k hk => ?_, fun n hn => hb n (List.mem_of_mem_take hn)⟩
  have hk' : k < len := by simpa using Nat.lt_of_lt_of_le hk (List.length_take_le _ _)
  have h0 := hcell 0 (by omega)
  have hk0 := hcell k (by omega)
  obtain ⟨b, off, spot⟩ := x
  have hs : spot = none := by simpa [Addr.add] using World.cell?_spot h0
  subst hs
  have hlt := cell_block_lt hk0
  refine ⟨b, off, rfl, ?_, ?_⟩
  · unfold Addr.add at hlt; split at hlt <;> exact hlt
  · have e : (⟨b, off, none⟩ : Addr).add k = ⟨b, off + k, none⟩ := by
      unfold Addr.add; split
      · rename_i h; subst h; rfl
      · rfl
    rw [← e, hk0, nth_eq hk]
    simp [List.getD_eq_getElem?_getD, show k < zs.length by omega]
end Go.Proofs.YtlhipgejiacklaaDoor
namespace Go.Proofs.YtlhipgejiacklaaDoor
open Go.RowKit

theorem open_rowx {W : World} {x : Addr} {len cap : Nat} {zs : List Int} (hl : len ≤ cap) (hm : cap ≤ maxLen) (hz : zs.length = cap) (hcell : ∀ i, i < zs.length → W.cell? (x.add i) = some (.int .i64 (zs.getD i 0)))
    (hb : ∀ n ∈ zs, -9223372036854775808 ≤ n ∧ n ≤ 9223372036854775807) :
    ∃ ys : List Int, ys.length = len ∧ IOK (some x) cap ys.length ∧ IntsAt W (some x) ys ∧ ∀ n ∈ ys, -9223372036854775808 ≤ n ∧ n ≤ 9223372036854775807 := by
  obtain ⟨ys, h1, h2, h3, h4⟩ := open_row hl hm hz hcell hb
  refine ⟨ys, h1, ⟨by omega, hm, (fun e => by cases e), ?_⟩, h3, h4⟩
  rcases Nat.eq_zero_or_pos ys.length with h0 | h0
  · exact .inl h0
  · obtain ⟨b, off, e, _⟩ := h3 0 h0
    injection e with e
    subst e
    exact .inr fun a e2 => by injection e2 with e2; subst e2; rfl
end Go.Proofs.YtlhipgejiacklaaDoor
namespace Go.Proofs.YtlhipgejiacklaaDoor
open Go.RowKit Go.ChangeShapes Go.WideShapes

theorem add_none (b off j : Nat) : (⟨b, off, none⟩ : Addr).add j = ⟨b, off + j, none⟩ := by
  unfold Addr.add; split
  · rename_i h; subst h; rfl
  · rfl
theorem open_shares {H : Type} {enc : TypeId × Value → H} {w : World} {base : Nat} {held : Bool} {n : Nat} {v : Value} {y : DataW H × List MemPlace} (h : DataW.trod enc Tryd.prog w base (fun _ => true) held n 31 [v] = some y) :
    ∃ (B : Option Addr) (S : List Shr) (c : Nat), v = .slice B S.length c ∧ S.length ≤ maxLen ∧ ShP (fun _ => True) w B c S := by
  rcases Deep.open_slice_pairs Tryd.underlying31 Tryd.underlying53 (by kernel_rfl) rfl rfl (by kernel_rfl) (by kernel_rfl) h with ⟨hcs, _⟩ | ⟨a, len, cap, m, n', V0, V1, D0, D1, P0, P1, hcs, _, hl, hm, hmm, _, hx⟩
  · simp only [List.cons.injEq, and_true] at hcs
    subst hcs
    exact ⟨none, [], 0, rfl, by simp [maxLen], ShP.nil _ _⟩
  · simp only [List.cons.injEq, and_true] at hcs
    subst hcs
    have hlm : len ≤ m := by rw [hmm]; split <;> omega
    have each : ∀ i, i < m → ∃ q : Int × List Int, w.cell? (a.add (i * 2)) = some (.int .i64 q.1) ∧ ∃ B c, w.cell? (a.add (i * 2 + 1)) = some (.slice B q.2.length c) ∧ IntsP (fun _ => True) w B c q.2 := fun i hi => by
      obtain ⟨h1, h2, h3, h4⟩ := hx i hi
      obtain ⟨t, e1, _, _⟩ := DataW.trod_int Tryd.underlying3 h3
      simp only [List.cons.injEq, and_true] at e1
      rcases open_ints Tryd.underlying22 Tryd.underlying3 (by kernel_rfl) h4 with ⟨hcs, _⟩ | ⟨x, l, c, zs, hcs, _, hl', hm', hz, _, hcell, hwz⟩
      · simp only [List.cons.injEq, and_true] at hcs
        exact ⟨(t, []), by rw [h1, e1], none, 0, by rw [h2, hcs]; rfl, IntsAt.nil _ _, IOK.none0, fun b off e => by cases e⟩
      · simp only [List.cons.injEq, and_true] at hcs
        obtain ⟨ys, g1, g2, g3, _⟩ := open_rowx hl' hm' (by simpa using hz) hcell (fun n hn => bounds_i64 (hwz n hn))
        exact ⟨(t, ys), by rw [h1, e1], some x, c, by rw [h2, hcs, g1], g3, g2, fun b off e => .inr trivial⟩
    have hq : ∃ q : Nat → Int × List Int, ∀ i, i < m → w.cell? (a.add (i * 2)) = some (.int .i64 (q i).1) ∧ ∃ B c, w.cell? (a.add (i * 2 + 1)) = some (.slice B (q i).2.length c) ∧ IntsP (fun _ => True) w B c (q i).2 :=
      ⟨fun i => if h : i < m then (each i h).choose else (0, []), fun i hi => by simp only [dif_pos hi]; exact (each i hi).choose_spec⟩
    obtain ⟨q, hq⟩ := hq
    have hlen : ((List.range len).map q).length = len := by simp
    have hspot : 0 < len → a.spot = none := fun h0 => by
      have := World.cell?_spot (hq 0 (by omega)).1
      simpa [Addr.add] using this
    refine ⟨some a, (List.range len).map q, cap, by rw [hlen], by rw [hlen]; omega, fun k hk => ?_, by rw [hlen]; omega, hm, (fun e => by cases e), ?_⟩
    · rw [hlen] at hk
      have hs := hspot (by omega)
      obtain ⟨b, off, spot⟩ := a
      have hs : spot = none := hs
      subst hs
      obtain ⟨h1, B, c, h2, h3⟩ := hq k (by omega)
      rw [add_none] at h1 h2
      have hlt := cell_block_lt h1
      have e1 : hS ((List.range len).map q) k = (q k).1 := by simp [hS, List.getD_eq_getElem?_getD, hk]
      have e2 : vS ((List.range len).map q) k = (q k).2 := by simp [vS, List.getD_eq_getElem?_getD, hk]
      refine ⟨b, off, B, c, rfl, hlt, trivial, ?_, ?_, ?_⟩
      · rw [h1, e1]
      · rw [show off + k * 2 + 1 = off + (k * 2 + 1) by omega, h2, e2]
      · rw [e2]; exact h3
    · rcases Nat.eq_zero_or_pos len with h0 | h0
      · exact .inl (by rw [hlen]; exact h0)
      · exact .inr fun a' e => by injection e with e; subst e; exact hspot h0
end Go.Proofs.YtlhipgejiacklaaDoor
