/-
  AttackerAll: the walk.
  Shares: the verifier's Odd: something of shares is changed.
  Shares: the document's Deal of any plan and numbers.
  What passes the program's test: Fermat's law for the four bases; a quick test for the kernel.
  The least exponent that four bases have in common.
  All multiples of a prime, in the kernel.
  The kernel's checks of multiples of primes, part 1.
  The kernel's checks of multiples of primes, part 2.
  The kernel's checks of multiples of primes, part 3.
  The kernel's checks of multiples of primes, part 4.
  Products of small primes, and large primes times small ones, in the kernel.
  The kernel's checks of products of small primes.
  The kernel's check of large primes times small numbers.
  What passes the program's test is prime.
  The program's test of a prime and the document's agree on every number.
  ShareDeals: what stands in memory; what is dealt is short.
  ShareCombines: the verifier's Small; lists of shares, and plans, in a literal.
  Conditions: those that each theorem names.
-/
import Derived.Test.YtjckpammcgeloaaDoorM12
set_option linter.unusedVariables false
set_option linter.unusedSimpArgs false
namespace Go.Proofs.YtjckpammcgeloaaDoor
open Go.RowKit

/-- A number below n. -/
def Pr.nat {R : World → World → Prop} (n : Nat) : Pr R := ⟨fun u _ => ∃ k : Nat, u = .int .i64 (k : Int) ∧ k < n, fun _ _ _ h _ => h⟩
theorem nat_next (R : List Int) (n : Nat) (hn : 0 < n) : ∃ k : Nat, Value.int .i64 (nextV R n) = .int .i64 (k : Int) ∧ k < n := by
  obtain ⟨h1, h2⟩ := nextV_range R n (by omega)
  exact ⟨(nextV R n).toNat, by rw [Int.toNat_of_nonneg h1], by omega⟩
theorem allIx : Ixs 1 (fun _ => 5) (fun _ => 6) (fun _ => 7) := ⟨by decide, by decide, by decide, by decide, by decide, by decide⟩
theorem chk_fine {p pn ph : Nat} {hh k : Int} (hpr : PrimeN p) (hp : p ≤ 500000003) (hp2 : 11 ≤ p) (h1 : 1 ≤ pn) (h2 : pn ≤ ph) (h3 : ph ≤ 5) (h4 : 1 ≤ hh) (h5 : hh ≤ ph) (hk : inI k 0 5 = true) : chkE p pn ph hh k = 0 :=
  (chk_ok (plB_true h1 h2 (by omega) (by omega) (prime_valid hpr (by omega)).2) (by unfold inI; simp; omega) hk).symm
section
variable {p pn ph : Nat} {hh lb : Int} {G O X : GiftD} (hc : ∀ k, inI k 0 5 = true → chkE p pn ph hh k = 0) (hh2 : G.h = hh)
include hc hh2
theorem sp_l2 : spE p pn ph hh 2 G = 0 ∧ spB p pn ph hh 2 G = true ∧ spG p pn ph hh 2 lb G O X = mapG (shS p (moreI p lb)) G := sp_ok (hc 2 (by decide)) hh2 (by omega)
theorem sp_l1 : spE p pn ph hh 1 G = 0 ∧ spB p pn ph hh 1 G = true ∧ spG p pn ph hh 1 lb G O X = valG p lb G := sp_ok (hc 1 (by decide)) hh2 (by omega)
theorem sp_l0 : spE p pn ph hh 0 G = 0 ∧ spB p pn ph hh 0 G = true ∧ spG p pn ph hh 0 lb G O X = G := sp_ok (hc 0 (by decide)) hh2 (by omega)
end
theorem tiny_map {G : GiftD} {p : Nat} {c : Int} (h : GTiny G) : GTiny (mapG (shS p c) G) :=
  ⟨fun k hk => by show (vS (G.bx.map (shS p c)) k).length ≤ 1000; rw [vS_shS, shvL_len]; exact h.b k (by simpa [mapG] using hk), fun k hk => by show (vS (G.wh.map (shS p c)) k).length ≤ 1000; rw [vS_shS, shvL_len]; exact h.w k (by simpa [mapG] using hk), by show (shvL p c G.kv).length ≤ 1000; rw [shvL_len]; exact h.k, by show (G.bx.map (shS p c)).length ≤ 1000; rw [List.length_map]; exact h.bl, by show (G.wh.map (shS p c)).length ≤ 1000; rw [List.length_map]; exact h.wl⟩
theorem vS_valB {p : Nat} {b : Int} {S : List Shr} {k : Nat} : (vS (valB p b S) k).length = (vS S k).length := by
  unfold valB
  generalize (plI b S.length).toNat = j
  rcases Nat.lt_or_ge j S.length with h | h
  · by_cases hjk : j = k
    · subst hjk; rw [vS_set_same h, fstV_len]
    · rw [vS_set_ne hjk]
  · rw [List.set_eq_of_length_le h]
theorem tiny_val {G : GiftD} {p : Nat} {b : Int} (h : GTiny G) : GTiny (valG p b G) :=
  ⟨fun k hk => by show (vS (valB p b G.bx) k).length ≤ 1000; rw [vS_valB]; exact h.b k (by have e : (valG p b G).bx.length = G.bx.length := valB_len _ _ _; omega), h.w, h.k, by show (valB p b G.bx).length ≤ 1000; rw [valB_len]; exact h.bl, h.wl⟩
def allPL (D p pn ph : Nat) (hh : Int) : List (Pr (fun _ _ => True)) := [Pr.eq (.pointer (some ⟨D, 0, none⟩)), Pr.eq (planV p pn ph), Pr.eq (.int .i64 hh), Pr.eq (.pointer (some ⟨D, 0, none⟩)), Pr.nat 4, Pr.any, Pr.any, Pr.any]
set_option maxRecDepth 100000 in
set_option maxHeartbeats 16000000 in
theorem attackerAll_walk (A0 : Option Addr) (L0 : List Int) (c0 : Nat) (by' : Int) (w : World) (hB : Bases w) (hl0 : L0.length ≤ maxLen) (hI0 : IntsAt w A0 L0) (_ : ∀ n ∈ L0, -9223372036854775808 ≤ n ∧ n ≤ 9223372036854775807) (_ : -9223372036854775808 ≤ by' ∧ by' ≤ 9223372036854775807) :
    Calls Tryd.prog 5 #[.slice A0 L0.length c0, .int .i64 by'] w (RetB (.bool true) w) := by
  have HB := Lib.hid hB
  clear hB
  by_cases hlight : (L0.length : Int) ≤ 500
  · have hL := light_any A0 L0.length c0 w
    rw [decide_eq_true hlight] at hL
    have HLt := Lib.hid hL
    clear hL hlight
    go_enter Tryd.func5, Tryd.ntmps5
    go_wp2_with fail
    refine ret_pure HLt.out ?_
    clear HLt
    go_wp2_with fail
    refine (roll_any A0 L0 c0 _ hl0 hI0).mono ?_
    rintro e w1 ⟨D, rfl, hDs, hD, hb1⟩
    have hE1 : Env w w1 D L0 := ⟨hD, hDs, hb1⟩
    clear hI0 hD hb1
    go_wp2_with fail
    refine (safe_any D L0 w1 hE1.dice).mono ?_
    rintro e w2 ⟨p, R1, rfl, hpr, hp1, hp2, hD2, hg2⟩
    have hE2 := hE1.next hD2 hg2
    have HPR := Lib.hid hpr
    clear hD2 hg2 hE1 hpr
    go_wp2_with fail
    refine (pplan_any D p R1 w2 hE2.dice (by omega)).mono ?_
    rintro e w3 ⟨pn, ph, R2, rfl, hn1, hn2, hn3, hD3, hg3⟩
    have hE3 := hE2.next hD3 hg3
    clear hD3 hg3 hE2
    go_wp2_with fail
    refine gen_calls fun w4 hw4 => ?_
    have hpc : PlanCell w4 w3.heap.size p pn ph := by rw [hw4]; exact PlanCell.new _ _ _ rfl
    have hE4 : Env w w4 D R2 := hE3.mv (by rw [hw4]; exact below_alloc _ _)
    have hxD : ¬ w3.heap.size = D := by have := hE3.lt; omega
    generalize w3.heap.size = px at *
    clear hw4 hE3
    refine (next_any D R2 ph w4 hE4.dice (by omega)).mono ?_
    rintro e w5 ⟨rfl, hD5, hg5⟩
    obtain ⟨m1, m2⟩ := nextV_range R2 ph (by omega)
    generalize nextV R2 ph = h0 at *
    have hE5 := hE4.next hD5 hg5
    have HPL := Lib.hid (show PlanCell w5 px p pn ph from (hg5.block px (blk_lt hpc) (fun e => by injection e with e; omega)).trans hpc)
    have hpD : ¬ (px = D) := hxD
    have hDW : D < w5.heap.size := hE5.lt
    have HE5 := Lib.hid hE5
    clear hpc hE4 hD5 hg5 hE5
    go_wp2_with fail
    have hh1 : 1 ≤ 1 + h0 := by omega
    have hh2 : 1 + h0 ≤ (ph : Int) := by omega
    generalize 1 + h0 = hh at *
    clear m1 m2
    refine wp_region_J2 (GI (allPL D p pn ph hh) (TrG w5 D 1 (fun _ => 5) (fun _ => 6) (fun _ => 7) (fun _ G => ∃ n, n ≤ 3 ∧ GiftM p hh n G))) (by kernel_rfl) (by kernel_rfl) (by kernel_rfl) ?_ ?_ ?_
    case refine_1 => exact fun V => GI.start (TrG.start ⟨_, HE5.out.dice⟩ V)
    case refine_2 =>
      refine JSteps.cons (fun V Ld a W hLi hpre hR hI K hK => ?_) ?_
      · have o5 := (hR.old 5 (by kernel_rfl)).trans (show _ = Value.pointer (some ⟨D, 0, none⟩) from rfl)
        exact G_move rfl (.tmp 5) rfl o5 (hK _ _ (hI.put0 0 rfl rfl (hI.st.set _ (by decide))))
      refine JSteps.cons (fun V Ld a W hLi hpre hR hI K hK => ?_) ?_
      · have o6 := (hR.old 6 (by kernel_rfl)).trans (show _ = Value.pointer (some ⟨px, 0, none⟩) from rfl)
        exact J_load rfl _ (.tmp 6) rfl (by rw [o6]; exact ld_plan ((hI.st.sv.block px (blk_lt HPL.out) hpD).trans HPL.out)) (hK _ _ (hI.put0 1 rfl rfl (hI.st.set _ (by decide))))
      refine JSteps.cons (fun V Ld a W hLi hpre hR hI K hK => ?_) ?_
      · have o7 := (hR.old 7 (by kernel_rfl)).trans (show _ = Value.int .i64 hh from rfl)
        exact G_move rfl (.tmp 7) rfl o7 (hK _ _ (hI.put0 2 rfl rfl (hI.st.set _ (by decide))))
      refine JSteps.cons (fun V Ld a W hLi hpre hR hI K hK => ?_) ?_
      · have o5 := (hR.old 5 (by kernel_rfl)).trans (show _ = Value.pointer (some ⟨D, 0, none⟩) from rfl)
        exact G_move rfl (.tmp 5) rfl o5 (hK _ _ (hI.put0 3 rfl rfl (hI.st.set _ (by decide))))
      refine JSteps.cons (fun V Ld a W hLi hpre hR hI K hK => ?_) ?_
      · obtain ⟨R, hd⟩ := hI.st.dice
        have p3 : Ld 3 = true := hpre 3 (List.mem_of_elem_eq_true (by kernel_rfl))
        have f3 := (hR.ev 3 rfl rfl p3).trans (hI.val 3 _ rfl p3)
        refine J_call rfl _ _ _ rfl enter_next (by simp only [List.map_toArray, List.map_cons, List.map_nil, f3]; rfl) (next_any D R 4 W hd (by omega)) ?_
        rintro e w' ⟨rfl, hd', hg⟩
        exact ⟨_, rfl, hK _ _ (hI.put trivial 4 rfl (nat_next R 4 (by omega)) (hI.st.mv hDW 4 (by decide) (grown_save hg (fun x e => by injection e with e; exact e.symm)) ⟨_, hd'⟩))⟩
      refine JSteps.cons (fun V Ld a W hLi hpre hR hI K hK => ?_) ?_
      · obtain ⟨R, hd⟩ := hI.st.dice
        have p0 : Ld 0 = true := hpre 0 (List.mem_of_elem_eq_true (by kernel_rfl))
        have f0 := (hR.ev 0 rfl rfl p0).trans (hI.val 0 _ rfl p0)
        have p1 : Ld 1 = true := hpre 1 (List.mem_of_elem_eq_true (by kernel_rfl))
        have f1 := (hR.ev 1 rfl rfl p1).trans (hI.val 1 _ rfl p1)
        have p2 : Ld 2 = true := hpre 2 (List.mem_of_elem_eq_true (by kernel_rfl))
        have f2 := (hR.ev 2 rfl rfl p2).trans (hI.val 2 _ rfl p2)
        have p4 : Ld 4 = true := hpre 4 (List.mem_of_elem_eq_true (by kernel_rfl))
        obtain ⟨n, en, ln⟩ := hI.val 4 _ rfl p4
        have f4 := (hR.ev 4 rfl rfl p4).trans en
        refine J_call rfl _ _ _ rfl enter_gift (by simp only [List.map_toArray, List.map_cons, List.map_nil, f0, f1, f2, f4]) (gift_any D R p pn ph hh n W hd (by omega) (by omega) (by omega)) ?_
        rintro e w' ⟨v, G, R', rfl, hGR, hM, hd', hg⟩
        exact ⟨_, rfl, hK _ _ (hI.put trivial 5 rfl trivial (hI.st.oG allIx hDW 0 (by decide) hLi hGR ⟨n, by omega, hM⟩ hd' hg))⟩
      refine JSteps.cons (fun V Ld a W hLi hpre hR hI K hK => ?_) ?_
      · exact J_alloc rfl _ rfl (al_gift W) (hK _ _ (hI.put trivial 6 rfl trivial (hI.st.oA allIx 0 (by decide) hLi)))
      refine JSteps.cons (fun V Ld a W hLi hpre hR hI K hK => ?_) trivial
      · have p6 : Ld 6 = true := hpre 6 (List.mem_of_elem_eq_true (by kernel_rfl))
        have p5 : Ld 5 = true := hpre 5 (List.mem_of_elem_eq_true (by kernel_rfl))
        obtain ⟨w', hs, hI', -⟩ := hI.st.oS allIx hDW 0 (by decide) p5 p6
        exact J_store rfl _ (.tmp 8) (.tmp 43) rfl (by rw [hR.ev 6 rfl rfl p6, hR.ev 5 rfl rfl p5]; exact hs) (hK _ _ (hI.put trivial 7 rfl trivial hI'))
    case refine_3 =>
      intro V Ld w6 hLd hI
      obtain ⟨g, G0, A0', ca0, B0', cb0, C0', cc0, e6, lg, ⟨n, hn, hM0⟩, K0, R0⟩ := hI.st.fin 0 (by decide) (hLd 7 (by decide))
      obtain ⟨A, ca, B, cb, C, cc, S, T, m, K1, M1, R1'⟩ := GftAt.open_ (X := fun _ => False) ⟨G0, A0', ca0, B0', cb0, C0', cc0, hM0, K0, R0.mono (fun b _ hb => ⟨hb, id⟩)⟩
      have HB6 := Lib.hid (HE5.out.below.trans (hI.st.sv.below w.heap.size HE5.out.below.size (fun k _ e => by have e' : k = D := e; omega)))
      replace HPL := Lib.hid (show PlanCell w6 px p pn ph from (hI.st.sv.block px (blk_lt HPL.out) hpD).trans HPL.out)
      have HK := Lib.hid K1
      have HR := Lib.hid (R1'.mono (Q := fun _ => True) (fun _ _ _ => trivial))
      have HM := Lib.hid M1
      have HSM := Lib.hid (gm_small M1 (by omega))
      have HTN := Lib.hid (gm_tiny M1 (by omega))
      clear hI hLd K0 R0 hM0 K1 R1' M1
      simp only [finL, putL, Act.put, Nat.reduceAdd]
      rw [e6]
      clear e6
      generalize V 0 = q0
      generalize V 1 = q1
      generalize V 2 = q2
      generalize V 3 = q3
      generalize V 4 = q4
      generalize V 5 = q5
      clear V
      simp only [List.setIfInBounds_toArray, List.set_cons_succ, List.set_cons_zero]
      have HCH := Lib.hid (fun (k : Int) (hk : inI k 0 5 = true) => chk_fine (k := k) HPR.out hp2 hp1 hn1 hn2 hn3 hh1 hh2 hk)
      have HS2 := Lib.hid (sp_l2 (p := p) (lb := by') (G := ⟨hh, S, T, hh, [m]⟩) (O := ⟨hh, S, T, hh, [m]⟩) (X := ⟨hh, S, T, hh, [m]⟩) HCH.out rfl)
      have HS1 := Lib.hid (sp_l1 (p := p) (lb := by') (G := ⟨hh, S, T, hh, [m]⟩) (O := ⟨hh, S, T, hh, [m]⟩) (X := ⟨hh, S, T, hh, [m]⟩) HCH.out rfl)
      have HS0 := Lib.hid (sp_l0 (p := p) (lb := by') (G := ⟨hh, S, T, hh, [m]⟩) (O := ⟨hh, S, T, hh, [m]⟩) (X := ⟨hh, S, T, hh, [m]⟩) HCH.out rfl)
      clear HE5 HCH
      have HBS := Lib.hid (HB.out.below HB6.out HB.out.1)
      have x0 := HK.out.c0
      have x1 := HK.out.c1
      have x2 := HK.out.c2
      have x3 := HK.out.c3
      have x4 := HK.out.c4
      have lx := HK.out.lt
      have p0' := HPL.out.c0
      have p1' := HPL.out.c1
      have p2' := HPL.out.c2
      have lp := HPL.out.lt
      go_wp2_with fail
      refine (spoil_any p pn ph hh 2 by' _ _ _ ⟨hh, S, T, hh, [m]⟩ ⟨hh, S, T, hh, [m]⟩ ⟨hh, S, T, hh, [m]⟩ w6 HBS.out (by omega) (by omega) HR.out HR.out HR.out HSM.out HSM.out HSM.out).mono ?_
      rintro e w7 ⟨v, rfl, hG', hb⟩
      obtain ⟨f1, f2, f3⟩ := HS2.out
      rw [f3] at hG'
      rw [f1, f2]
      obtain ⟨A2, a2, B2, b2, C2, c2, rfl, q1, q2, q3⟩ := hG'.open_ (n := n) (m := n) (l := 1) (by simp; exact HM.out.bl) (by simp; exact HM.out.wl) (by simp [shS, shvL])
      have HQ2 := Lib.hid (show GiftR (fun _ => True) w7 (giftV hh (.slice A2 n a2) (.slice B2 n b2) hh (.slice C2 1 c2)) (mapG (shS p (moreI p by')) ⟨hh, S, T, hh, [m]⟩) from by
        obtain ⟨A', ca', B', cb', C', cc', e, r1, r2, r3⟩ := hG'
        exact ⟨A', ca', B', cb', C', cc', e, r1.any, r2.any, r3.mono (fun _ _ _ => trivial)⟩)
      clear f1 f2 f3 hG' q1 q2 q3
      clear x0 x1 x2 x3 x4 lx p0' p1' p2' lp
      replace HK := Lib.hid (HK.out.below hb)
      replace HR := Lib.hid (HR.out.below hb)
      replace HPL := Lib.hid (HPL.out.below hb)
      replace HB6 := Lib.hid (below_trans HB6.out hb)
      replace HBS := Lib.hid (HB.out.below HB6.out HB.out.1)
      clear hb
      have x0 := HK.out.c0
      have x1 := HK.out.c1
      have x2 := HK.out.c2
      have x3 := HK.out.c3
      have x4 := HK.out.c4
      have lx := HK.out.lt
      have p0' := HPL.out.c0
      have p1' := HPL.out.c1
      have p2' := HPL.out.c2
      have lp := HPL.out.lt
      go_wp2_with fail
      refine gen_calls fun w8 hw8 => ?_
      have hb : Below w7.heap.size w7 w8 := by rw [hw8]; exact below_alloc _ _
      have HKa := Lib.hid (show GiftCell w8 w7.heap.size hh (.slice A2 n a2) (.slice B2 n b2) hh (.slice C2 1 c2) from by rw [hw8]; exact GiftCell.new _ _ _ _ _ rfl)
      clear hw8
      clear x0 x1 x2 x3 x4 lx p0' p1' p2' lp
      replace HK := Lib.hid (HK.out.below hb)
      replace HR := Lib.hid (HR.out.below hb)
      replace HPL := Lib.hid (HPL.out.below hb)
      replace HQ2 := Lib.hid (HQ2.out.below hb)
      replace HB6 := Lib.hid (below_trans HB6.out hb)
      replace HBS := Lib.hid (HB.out.below HB6.out HB.out.1)
      clear hb
      generalize w7.heap.size = xa at *
      have x0 := HK.out.c0
      have x1 := HK.out.c1
      have x2 := HK.out.c2
      have x3 := HK.out.c3
      have x4 := HK.out.c4
      have lx := HK.out.lt
      have p0' := HPL.out.c0
      have p1' := HPL.out.c1
      have p2' := HPL.out.c2
      have lp := HPL.out.lt
      refine (spoil_any p pn ph hh 1 by' _ _ _ ⟨hh, S, T, hh, [m]⟩ ⟨hh, S, T, hh, [m]⟩ ⟨hh, S, T, hh, [m]⟩ w8 HBS.out (by omega) (by omega) HR.out HR.out HR.out HSM.out HSM.out HSM.out).mono ?_
      rintro e w9 ⟨v, rfl, hG', hb⟩
      obtain ⟨f1, f2, f3⟩ := HS1.out
      rw [f3] at hG'
      rw [f1, f2]
      obtain ⟨A1, a1, B1, b1, C1, c1, rfl, q1, q2, q3⟩ := hG'.open_ (n := n) (m := n) (l := 1) (by rw [valB_len]; exact HM.out.bl) HM.out.wl rfl
      have HQ1 := Lib.hid (show GiftR (fun _ => True) w9 (giftV hh (.slice A1 n a1) (.slice B1 n b1) hh (.slice C1 1 c1)) (valG p by' ⟨hh, S, T, hh, [m]⟩) from by
        obtain ⟨A', ca', B', cb', C', cc', e, r1, r2, r3⟩ := hG'
        exact ⟨A', ca', B', cb', C', cc', e, r1.any, r2.any, r3.mono (fun _ _ _ => trivial)⟩)
      clear f1 f2 f3 hG' q1 q2 q3
      clear x0 x1 x2 x3 x4 lx p0' p1' p2' lp
      replace HK := Lib.hid (HK.out.below hb)
      replace HR := Lib.hid (HR.out.below hb)
      replace HPL := Lib.hid (HPL.out.below hb)
      replace HQ2 := Lib.hid (HQ2.out.below hb)
      replace HKa := Lib.hid (HKa.out.below hb)
      replace HB6 := Lib.hid (below_trans HB6.out hb)
      replace HBS := Lib.hid (HB.out.below HB6.out HB.out.1)
      clear hb
      have x0 := HK.out.c0
      have x1 := HK.out.c1
      have x2 := HK.out.c2
      have x3 := HK.out.c3
      have x4 := HK.out.c4
      have lx := HK.out.lt
      have p0' := HPL.out.c0
      have p1' := HPL.out.c1
      have p2' := HPL.out.c2
      have lp := HPL.out.lt
      go_wp2_with fail
      refine gen_calls fun w10 hw10 => ?_
      have hb : Below w9.heap.size w9 w10 := by rw [hw10]; exact below_alloc _ _
      have HKb := Lib.hid (show GiftCell w10 w9.heap.size hh (.slice A1 n a1) (.slice B1 n b1) hh (.slice C1 1 c1) from by rw [hw10]; exact GiftCell.new _ _ _ _ _ rfl)
      clear hw10
      clear x0 x1 x2 x3 x4 lx p0' p1' p2' lp
      replace HK := Lib.hid (HK.out.below hb)
      replace HR := Lib.hid (HR.out.below hb)
      replace HPL := Lib.hid (HPL.out.below hb)
      replace HQ2 := Lib.hid (HQ2.out.below hb)
      replace HKa := Lib.hid (HKa.out.below hb)
      replace HQ1 := Lib.hid (HQ1.out.below hb)
      replace HB6 := Lib.hid (below_trans HB6.out hb)
      replace HBS := Lib.hid (HB.out.below HB6.out HB.out.1)
      clear hb
      generalize w9.heap.size = xb at *
      have x0 := HK.out.c0
      have x1 := HK.out.c1
      have x2 := HK.out.c2
      have x3 := HK.out.c3
      have x4 := HK.out.c4
      have lx := HK.out.lt
      have p0' := HPL.out.c0
      have p1' := HPL.out.c1
      have p2' := HPL.out.c2
      have lp := HPL.out.lt
      refine (spoil_any p pn ph hh 0 by' _ _ _ ⟨hh, S, T, hh, [m]⟩ ⟨hh, S, T, hh, [m]⟩ ⟨hh, S, T, hh, [m]⟩ w10 HBS.out (by omega) (by omega) HR.out HR.out HR.out HSM.out HSM.out HSM.out).mono ?_
      rintro e w11 ⟨v, rfl, hG', hb⟩
      obtain ⟨f1, f2, f3⟩ := HS0.out
      rw [f3] at hG'
      rw [f1, f2]
      obtain ⟨A3, a3, B3, b3, C3, c3, rfl, q1, q2, q3⟩ := hG'.open_ (n := n) (m := n) (l := 1) HM.out.bl HM.out.wl rfl
      have HQ3 := Lib.hid (show GiftR (fun _ => True) w11 (giftV hh (.slice A3 n a3) (.slice B3 n b3) hh (.slice C3 1 c3)) ⟨hh, S, T, hh, [m]⟩ from by
        obtain ⟨A', ca', B', cb', C', cc', e, r1, r2, r3⟩ := hG'
        exact ⟨A', ca', B', cb', C', cc', e, r1.any, r2.any, r3.mono (fun _ _ _ => trivial)⟩)
      clear f1 f2 f3 hG' q1 q2 q3
      clear x0 x1 x2 x3 x4 lx p0' p1' p2' lp
      replace HK := Lib.hid (HK.out.below hb)
      replace HR := Lib.hid (HR.out.below hb)
      replace HPL := Lib.hid (HPL.out.below hb)
      replace HQ2 := Lib.hid (HQ2.out.below hb)
      replace HKa := Lib.hid (HKa.out.below hb)
      replace HQ1 := Lib.hid (HQ1.out.below hb)
      replace HKb := Lib.hid (HKb.out.below hb)
      replace HB6 := Lib.hid (below_trans HB6.out hb)
      replace HBS := Lib.hid (HB.out.below HB6.out HB.out.1)
      clear hb
      have x0 := HK.out.c0
      have x1 := HK.out.c1
      have x2 := HK.out.c2
      have x3 := HK.out.c3
      have x4 := HK.out.c4
      have lx := HK.out.lt
      have p0' := HPL.out.c0
      have p1' := HPL.out.c1
      have p2' := HPL.out.c2
      have lp := HPL.out.lt
      go_upto_region 10 with fail
      refine gen_world fun w12 hw12 => ?_
      have hb : Below w11.heap.size w11 w12 := by rw [hw12]; exact below_alloc _ _
      have HKc := Lib.hid (show GiftCell w12 w11.heap.size hh (.slice A3 n a3) (.slice B3 n b3) hh (.slice C3 1 c3) from by rw [hw12]; exact GiftCell.new _ _ _ _ _ rfl)
      clear hw12
      clear x0 x1 x2 x3 x4 lx p0' p1' p2' lp
      replace HK := Lib.hid (HK.out.below hb)
      replace HR := Lib.hid (HR.out.below hb)
      replace HPL := Lib.hid (HPL.out.below hb)
      replace HQ2 := Lib.hid (HQ2.out.below hb)
      replace HKa := Lib.hid (HKa.out.below hb)
      replace HQ1 := Lib.hid (HQ1.out.below hb)
      replace HKb := Lib.hid (HKb.out.below hb)
      replace HQ3 := Lib.hid (HQ3.out.below hb)
      replace HB6 := Lib.hid (below_trans HB6.out hb)
      replace HBS := Lib.hid (HB.out.below HB6.out HB.out.1)
      clear hb
      generalize w11.heap.size = xc at *
      have x0 := HK.out.c0
      have x1 := HK.out.c1
      have x2 := HK.out.c2
      have x3 := HK.out.c3
      have x4 := HK.out.c4
      have lx := HK.out.lt
      have p0' := HPL.out.c0
      have p1' := HPL.out.c1
      have p2' := HPL.out.c2
      have lp := HPL.out.lt
      have z0 := HKc.out.c0
      have z1 := HKc.out.c1
      have z2 := HKc.out.c2
      have z3 := HKc.out.c3
      have z4 := HKc.out.c4
      have lz := HKc.out.lt
      go_wp2_with fail
      have hsg := refSame_gift _ _ ⟨hh, S, T, hh, [m]⟩ ⟨hh, S, T, hh, [m]⟩ w12 HQ3.out HR.out HSM.out
      rw [eqG_refl] at hsg
      refine ret_below hsg fun w13 hb => ?_
      clear hsg z0 z1 z2 z3 z4 lz HKc HQ3 HS0 HS1 HS2
      clear x0 x1 x2 x3 x4 lx p0' p1' p2' lp
      replace HK := Lib.hid (HK.out.below hb)
      replace HR := Lib.hid (HR.out.below hb)
      replace HPL := Lib.hid (HPL.out.below hb)
      replace HQ2 := Lib.hid (HQ2.out.below hb)
      replace HKa := Lib.hid (HKa.out.below hb)
      replace HQ1 := Lib.hid (HQ1.out.below hb)
      replace HKb := Lib.hid (HKb.out.below hb)
      replace HB6 := Lib.hid (below_trans HB6.out hb)
      replace HBS := Lib.hid (HB.out.below HB6.out HB.out.1)
      clear hb
      have x0 := HK.out.c0
      have x1 := HK.out.c1
      have x2 := HK.out.c2
      have x3 := HK.out.c3
      have x4 := HK.out.c4
      have lx := HK.out.lt
      have p0' := HPL.out.c0
      have p1' := HPL.out.c1
      have p2' := HPL.out.c2
      have lp := HPL.out.lt
      have y0 := HKa.out.c0
      have y1 := HKa.out.c1
      have y2 := HKa.out.c2
      have y3 := HKa.out.c3
      have y4 := HKa.out.c4
      have ly := HKa.out.lt
      go_wp2_with fail
      have hca := count_any p _ _ (mapG (shS p (moreI p by')) ⟨hh, S, T, hh, [m]⟩) ⟨hh, S, T, hh, [m]⟩ w13 HQ2.out HR.out (tiny_map HTN.out) HTN.out (form_all (by omega)) (by omega)
      have ea := count_all (b := by') HM.out (show 2 ≤ p by omega)
      unfold ctV at hca
      rw [ea] at hca
      generalize allC (allS (mapG (shS p (moreI p by')) ⟨hh, S, T, hh, [m]⟩)) (allS (mapG (shS p (moreI p by')) ⟨hh, S, T, hh, [m]⟩)).length = k1 at *
      clear ea
      refine ret_below hca fun w14 hb => ?_
      clear hca x0 x1 x2 x3 x4 lx p0' p1' p2' lp y0 y1 y2 y3 y4 ly
      replace HK := Lib.hid (HK.out.below hb)
      replace HR := Lib.hid (HR.out.below hb)
      replace HPL := Lib.hid (HPL.out.below hb)
      replace HQ2 := Lib.hid (HQ2.out.below hb)
      replace HKa := Lib.hid (HKa.out.below hb)
      replace HQ1 := Lib.hid (HQ1.out.below hb)
      replace HKb := Lib.hid (HKb.out.below hb)
      replace HB6 := Lib.hid (below_trans HB6.out hb)
      replace HBS := Lib.hid (HB.out.below HB6.out HB.out.1)
      clear hb
      have x0 := HK.out.c0
      have x1 := HK.out.c1
      have x2 := HK.out.c2
      have x3 := HK.out.c3
      have x4 := HK.out.c4
      have lx := HK.out.lt
      have p0' := HPL.out.c0
      have p1' := HPL.out.c1
      have p2' := HPL.out.c2
      have lp := HPL.out.lt
      have y0 := HKb.out.c0
      have y1 := HKb.out.c1
      have y2 := HKb.out.c2
      have y3 := HKb.out.c3
      have y4 := HKb.out.c4
      have ly := HKb.out.lt
      go_wp2_with fail
      have hcb := count_any p _ _ (valG p by' ⟨hh, S, T, hh, [m]⟩) ⟨hh, S, T, hh, [m]⟩ w14 HQ1.out HR.out (tiny_val HTN.out) HTN.out (form_val HM.out (by omega)) (by omega)
      have eb := count_val (b := by') HM.out (show 2 ≤ p by omega)
      unfold ctV at hcb
      rw [eb] at hcb
      generalize allC (allS (valG p by' ⟨hh, S, T, hh, [m]⟩)) (allS (valG p by' ⟨hh, S, T, hh, [m]⟩)).length = k2 at *
      clear eb
      by_cases h0 : 0 < n
      · rw [if_pos h0] at hcb
        refine ret_below hcb fun w15 hb => ?_
        clear hcb x0 x1 x2 x3 x4 lx p0' p1' p2' lp y0 y1 y2 y3 y4 ly
        replace HK := Lib.hid (HK.out.below hb)
        replace HR := Lib.hid (HR.out.below hb)
        replace HPL := Lib.hid (HPL.out.below hb)
        replace HQ2 := Lib.hid (HQ2.out.below hb)
        replace HKa := Lib.hid (HKa.out.below hb)
        replace HQ1 := Lib.hid (HQ1.out.below hb)
        replace HKb := Lib.hid (HKb.out.below hb)
        replace HB6 := Lib.hid (below_trans HB6.out hb)
        replace HBS := Lib.hid (HB.out.below HB6.out HB.out.1)
        clear hb
        have x1 := HK.out.c1
        have lx := HK.out.lt
        have h0' : (0 : Int) < (n : Int) := by omega
        go_wp2_with fail
        refine ret_below (awake42 _ HBS.out) fun w16 hb => ?_
        go_wp2_with fail
        go_ret
        exact RetB.bool (by simp) (below_trans HB6.out hb)
      · rw [if_neg h0] at hcb
        refine ret_below hcb fun w15 hb => ?_
        clear hcb x0 x1 x2 x3 x4 lx p0' p1' p2' lp y0 y1 y2 y3 y4 ly
        replace HK := Lib.hid (HK.out.below hb)
        replace HR := Lib.hid (HR.out.below hb)
        replace HPL := Lib.hid (HPL.out.below hb)
        replace HQ2 := Lib.hid (HQ2.out.below hb)
        replace HKa := Lib.hid (HKa.out.below hb)
        replace HQ1 := Lib.hid (HQ1.out.below hb)
        replace HKb := Lib.hid (HKb.out.below hb)
        replace HB6 := Lib.hid (below_trans HB6.out hb)
        replace HBS := Lib.hid (HB.out.below HB6.out HB.out.1)
        clear hb
        have x1 := HK.out.c1
        have lx := HK.out.lt
        have h0' : ¬ (0 : Int) < (n : Int) := by omega
        go_wp2_with fail
        refine ret_below (awake42 _ HBS.out) fun w16 hb => ?_
        go_wp2_with fail
        go_ret
        exact RetB.bool (by simp) (below_trans HB6.out hb)
  · have hL := light_any A0 L0.length c0 w
    rw [decide_eq_false hlight] at hL
    have HLt := Lib.hid hL
    clear hL
    go_enter Tryd.func5, Tryd.ntmps5
    go_wp2_with fail
    refine ret_pure HLt.out ?_
    go_wp2_with fail
    refine ret_below (awake42 _ HB.out) ?_
    intro w1 hb1
    go_wp2_with fail
    go_ret
    exact RetB.bool rfl hb1
end Go.Proofs.YtjckpammcgeloaaDoor
namespace Go.Proofs.YtjckpammcgeloaaDoor
open Go.RowKit

attribute [local go_sem high] sliced_low
def Wide (M : Nat) (S : List Shr) : Prop := ∀ k, k < S.length → (vS S k).length ≤ M
theorem Wide.set {M : Nat} {S : List Shr} {k : Nat} {x : Int} {L : List Int} (h : Wide M S) (hL : L.length ≤ M + 1) : Wide (M + 1) (S.set k (x, L)) := fun j hj => by
  simp only [List.length_set] at hj
  by_cases hjk : k = j
  · subst hjk; rw [(sset_at hj).2]; exact hL
  · rw [(sset_other hjk).2]; have := h j hj; omega
theorem Wide.up {M : Nat} {S : List Shr} (h : Wide M S) : Wide (M + 1) S := fun k hk => by have := h k hk; omega
theorem Wide.app {M : Nat} {S : List Shr} {x : Int} {L : List Int} (h : Wide M S) (hL : L.length ≤ M) : Wide (M + 1) (S ++ [(x, L)]) := fun j hj => by
  by_cases hjs : j < S.length
  · rw [(hS_append hjs).2]; have := h j hjs; omega
  · have : j = S.length := by simp at hj; omega
    subst this
    rw [hS_last.2]; show L.length ≤ M + 1; omega
def OddP (D M : Nat) (S : List Shr) (w : World) (e : Ending) (w' : World) : Prop :=
  ∃ (A : Option Addr) (c : Nat) (S' : List Shr) (R' : List Int), e = .returned (.slice A S'.length c) ∧ ShP (· ≠ D) w' A c S' ∧ S'.length ≤ S.length + 1 ∧ Wide (M + 1) S' ∧ DiceAt w' D R' ∧ w.grownBy w' (some D) ∧ RowsV (fun b => w.heap.size ≤ b) w' w.heap.size (.slice A S'.length c) S'
/-- What stands while something is changed. -/
structure OdW (w0 w : World) (D : Nat) (R : List Int) (g c : Nat) (H : List HV) (S : List Shr) : Prop where
  dice : DiceAt w D R
  grown : w0.grownBy w (some D)
  rows : RowsI w w0.heap.size (.slice (some ⟨g, 0, none⟩) H.length c) H S
theorem OdW.mv {w0 w w' : World} {D : Nat} {R R' : List Int} {g c : Nat} {H : List HV} {S : List Shr} (h : OdW w0 w D R g c H S) (hD : D < w0.heap.size) (hd : DiceAt w' D R') (hg : w.grownBy w' (some D)) : OdW w0 w' D R' g c H S :=
  ⟨hd, grown_trans h.grown hg, h.rows.grown hg hD⟩
theorem OdW.alloc {w0 w : World} {D : Nat} {R : List Int} {g c : Nat} {H : List HV} {S : List Shr} (h : OdW w0 w D R g c H S) (o : Obj) : OdW w0 (w.alloc o) D R g c H S :=
  ⟨h.dice.alloc o, grown_trans h.grown (grown_of_below (below_alloc w o)), h.rows.below (below_alloc w o)⟩
theorem OdW.gb {w0 w : World} {D : Nat} {R : List Int} {g c : Nat} {H : List HV} {S : List Shr} (h : OdW w0 w D R g c H S) (_ : 0 < H.length) : g < w.heap.size ∧ w0.heap.size ≤ g := by
  have := World.ownsRow.lt h.rows.out g rfl
  exact ⟨this.2, this.1⟩
theorem OdW.cell {w0 w : World} {D : Nat} {R : List Int} {g c : Nat} {H : List HV} {S : List Shr} (h : OdW w0 w D R g c H S) (k : Nat) (hk : k < H.length) :
    ∃ B c', w.cell? ⟨g, k * 2, none⟩ = some (.int .i64 (hS S k)) ∧ w.cell? ⟨g, k * 2 + 1, none⟩ = some (.slice B (vS S k).length c') ∧ (hvAt H k).2 = .slice B (vS S k).length c' ∧ IntsP (fun b => w0.heap.size ≤ b ∧ b ≠ g) w B c' (vS S k) := by
  obtain ⟨g2, c2, hv, -, -, -, -, hcell, -⟩ := h.rows.out.form (by omega)
  injection hv with e1 e2 e3
  injection e1 with e1
  injection e1 with e1
  subst e1
  obtain ⟨a1, a2⟩ := hcell k hk
  obtain ⟨f1, B, c', f2, f3⟩ := h.rows.toV k (by rw [← h.rows.len]; exact hk)
  exact ⟨B, c', by rw [a1, f1], by rw [a2, f2], f2, f3.mono (fun b _ hb => ⟨hb.1, fun e => hb.2 (by rw [e]; rfl)⟩)⟩
theorem OdW.free {w0 w : World} {D : Nat} {R : List Int} {g c : Nat} {H : List HV} {S : List Shr} (h : OdW w0 w D R g c H S) (h0 : 0 < H.length) (j : Nat) : w.frozen? ⟨g, j, none⟩ = false := by
  obtain ⟨g2, c2, hv, -, -, -, -, -, hfr⟩ := h.rows.out.form h0
  injection hv with e1 e2 e3
  injection e1 with e1
  injection e1 with e1
  subst e1
  exact hfr j
theorem OdW.set {w0 w : World} {D : Nat} {R : List Int} {g c : Nat} {H : List HV} {S : List Shr} (h : OdW w0 w D R g c H S) (hD : D < w0.heap.size) (q : Addr) (u : Value) (hq : w0.heap.size ≤ q.block) : DiceAt (w.setCell q u) D R ∧ w0.grownBy (w.setCell q u) (some D) :=
  ⟨h.dice.setCell _ _ (by omega), grown_set h.grown _ _ hq⟩
theorem OdW.fr0 {w0 w : World} {D : Nat} {R : List Int} {g c : Nat} {H : List HV} {S : List Shr} (h : OdW w0 w D R g c H S) (h0 : 0 < H.length) (k : Nat) : w.frozen? ⟨g, k * 2, none⟩ = false := h.free h0 _
theorem OdW.fr1 {w0 w : World} {D : Nat} {R : List Int} {g c : Nat} {H : List HV} {S : List Shr} (h : OdW w0 w D R g c H S) (h0 : 0 < H.length) (k : Nat) : w.frozen? ⟨g, k * 2 + 1, none⟩ = false := h.free h0 _
theorem OdW.st0 {w0 w : World} {D : Nat} {R : List Int} {g c : Nat} {H : List HV} {S : List Shr} (h : OdW w0 w D R g c H S) (hD : D < w0.heap.size) (hg : w0.heap.size ≤ g) (k : Nat) (u : Value) : DiceAt (w.setCell ⟨g, k * 2, none⟩ u) D R ∧ w0.grownBy (w.setCell ⟨g, k * 2, none⟩ u) (some D) := h.set hD _ u hg
theorem OdW.st1 {w0 w : World} {D : Nat} {R : List Int} {g c : Nat} {H : List HV} {S : List Shr} (h : OdW w0 w D R g c H S) (hD : D < w0.heap.size) (hg : w0.heap.size ≤ g) (k : Nat) (u : Value) : DiceAt (w.setCell ⟨g, k * 2 + 1, none⟩ u) D R ∧ w0.grownBy (w.setCell ⟨g, k * 2 + 1, none⟩ u) (some D) := h.set hD _ u hg
/-- The end: what is handed back. -/
theorem odd_end {w0 w' : World} {D M : Nat} {R : List Int} {v : Value} {S S' : List Shr} (hD : D < w0.heap.size) (hR : RowsV (fun b => w0.heap.size ≤ b) w' w0.heap.size v S') (hl : S'.length ≤ S.length + 1) (hw : Wide (M + 1) S') (hd : DiceAt w' D R) (hg : w0.grownBy w' (some D)) :
    OddP D M S w0 (.returned v) w' := by
  obtain ⟨A, c, rfl, hX⟩ := hR.read
  exact ⟨A, c, S', R, rfl, hX.mono (fun b _ hb => by omega), hl, hw, hd, hg, hR⟩
theorem frzO {w : World} {g : Nat} {c : Array Value} {t : TypeId} (h : w.heap[g]? = some (.cells c t (0, 0))) (j : Nat) : w.frozen? ⟨g, j, none⟩ = false := by
  simp only [World.frozen?, h]; simp
theorem OddP.alloc {D M : Nat} {S : List Shr} {w w' : World} {e : Ending} (h : OddP D M S w e w') (o : Obj) : OddP D M S w e (w'.alloc o) := by
  obtain ⟨A, c, S', R', he, h1, h2, h3, h4, h5, h6⟩ := h
  exact ⟨A, c, S', R', he, h1.below (below_alloc w' o), h2, h3, h4.alloc o, grown_trans h5 (grown_of_below (below_alloc w' o)), h6.below (below_alloc w' o)⟩
theorem OddP.drew {D M : Nat} {S : List Shr} {w w' : World} {e : Ending} (h : OddP D M S w e w') : OddP D M S w e w'.drew := by
  obtain ⟨A, c, S', R', he, h1, h2, h3, h4, h5, h6⟩ := h
  exact ⟨A, c, S', R', he, h1.below (below_drewT w'), h2, h3, h4.drewN 1, grown_drew h5, h6.below (below_drewT w')⟩
theorem grown_low {w0 w w' : World} {D : Nat} (h : w0.grownBy w (some D)) (hb : Below w0.heap.size w w') : w0.grownBy w' (some D) :=
  ⟨hb.os.trans h.os, hb.tape.trans h.tape, hb.output.trans h.output, Nat.le_trans h.size hb.size, fun k hk hne => (hb.block k hk).trans (h.block k hk hne)⟩
theorem own_some {w : World} {base n c : Nat} {B : Option Addr} {e : TypeId} {xs : List Value} (h : w.ownsRow base e 1 (.slice B n c) n xs) (h0 : 0 < n) : ∃ b, B = some ⟨b, 0, none⟩ ∧ base ≤ b ∧ b < w.heap.size ∧ ∀ j, w.frozen? ⟨b, j, none⟩ = false := by
  have hlt := World.ownsRow.lt h
  rcases h.2 with ⟨_, h2⟩ | ⟨g, cap, cur, hv, hg, hh, -⟩
  · omega
  · injection hv with e1 e2 e3
    subst e1
    exact ⟨g, rfl, hg, (hlt g rfl).2, frzO hh⟩
theorem OdW.row_free {w0 w : World} {D : Nat} {R : List Int} {g c b c' k : Nat} {H : List HV} {S : List Shr} (h : OdW w0 w D R g c H S) (hk : k < S.length) (hv : (hvAt H k).2 = .slice (some ⟨b, 0, none⟩) (vS S k).length c') (h0 : 0 < (vS S k).length) : w.frozen? ⟨b, 0, none⟩ = false := by
  have hrow := h.rows.row k hk
  rw [hv] at hrow
  obtain ⟨b2, e, -, -, hfr⟩ := own_some hrow h0
  injection e with e; injection e with e
  subst e; exact hfr 0
theorem OdW.row_lt {w0 w : World} {D : Nat} {R : List Int} {g c b c' k : Nat} {H : List HV} {S : List Shr} (h : OdW w0 w D R g c H S) (hk : k < S.length) (hv : (hvAt H k).2 = .slice (some ⟨b, 0, none⟩) (vS S k).length c') (h0 : 0 < (vS S k).length) : b < w.heap.size := by
  have hrow := h.rows.row k hk
  rw [hv] at hrow
  obtain ⟨b2, e, -, hlt, -⟩ := own_some hrow h0
  injection e with e; injection e with e
  subst e; exact hlt
end Go.Proofs.YtjckpammcgeloaaDoor
namespace Go.Proofs.YtjckpammcgeloaaDoor
open Go.RowKit

theorem IntsAt.belowW {w w' : World} {A : Option Addr} {L : List Int} (h : IntsAt w A L) (hb : Below w.heap.size w w') : IntsAt w' A L := h.below hb
end Go.Proofs.YtjckpammcgeloaaDoor
namespace Go.Proofs.YtjckpammcgeloaaDoor
open Go.RowKit

/-- b^e % n in three steps. -/
def fpk (k K b e n : Nat) : Nat := Nat.mod (Nat.mul (Nat.pow (Nat.mod (Nat.mul (Nat.pow (Nat.mod (Nat.pow b (Nat.div e K)) n) k) (Nat.pow b (Nat.mod (Nat.div e k) k))) n) k) (Nat.pow b (Nat.mod e k))) n
theorem fpk_eq (k K b e n : Nat) (hK : K = k * k) : fpk k K b e n = b ^ e % n := by
  show (((b ^ (e / K) % n) ^ k * b ^ (e / k % k) % n) ^ k * b ^ (e % k)) % n = b ^ e % n
  have h1 : ∀ x y : Nat, ((x % n) ^ k * y) % n = (x ^ k * y) % n := fun x y => by
    rw [Nat.mul_mod, ← Nat.pow_mod, ← Nat.mul_mod]
  have h2 : ∀ x y z : Nat, (((x % n) ^ k * y) ^ k * z) % n = ((x ^ k * y) ^ k * z) % n := fun x y z => by
    rw [Nat.mul_mod, Nat.pow_mod, h1, ← Nat.pow_mod, ← Nat.mul_mod]
  rw [h1, h2]
  simp only [← Nat.pow_mul, ← Nat.pow_add]
  congr 2
  rw [hK, ← Nat.div_div_eq_div_mul, Nat.mul_comm (e / k / k) k, Nat.div_add_mod, Nat.mul_comm, Nat.div_add_mod]
def fp (b e n : Nat) : Nat := fpk 1024 1048576 b e n
theorem fp_eq (b e n : Nat) : fp b e n = b ^ e % n := fpk_eq 1024 1048576 b e n (by decide +kernel)
/-! ### Passing is Fermat's law -/
theorem sq_pred {n : Nat} (h : 2 ≤ n) : (n - 1) ^ 2 % n = 1 := by
  have e : (n - 1) ^ 2 = n * (n - 2) + 1 := by
    obtain ⟨m, rfl⟩ : ∃ m, n = m + 2 := ⟨n - 2, by omega⟩
    simp only [Nat.add_sub_cancel, show m + 2 - 1 = m + 1 by omega, Nat.pow_two, Nat.add_mul, Nat.mul_add]; omega
  rw [e, Nat.mul_add_mod]; exact Nat.mod_eq_of_lt (by omega)
theorem pow_one_mod {n x k : Nat} (hn : 2 ≤ n) (h : x % n = 1) : x ^ k % n = 1 := by
  rw [Nat.pow_mod, h, Nat.one_pow]; exact Nat.mod_eq_of_lt (by omega)
theorem mrGo_fermat {n : Nat} (hn : 2 ≤ n) : ∀ k x, mrGo n k x = true → ∃ j, 1 ≤ j ∧ j ≤ k ∧ x ^ (2 ^ j) % n = n - 1
  | 0, x, h => by simp [mrGo] at h
  | k + 1, x, h => by
    by_cases hy : fmul n x x = n - 1
    · exact ⟨1, by omega, by omega, by rw [← hy]; unfold fmul; rw [Nat.pow_one, Nat.pow_two]⟩
    · rw [mrGo_no n k x hy] at h
      obtain ⟨j, h1, h2, h3⟩ := mrGo_fermat hn k _ h
      refine ⟨j + 1, by omega, by omega, ?_⟩
      rw [← h3]
      unfold fmul
      rw [← Nat.pow_mod, ← Nat.pow_two, ← Nat.pow_mul, ← Nat.pow_succ']
theorem pow_up {n x j s : Nat} (hn : 2 ≤ n) (hj : j < s) (h : x ^ (2 ^ j) % n = n - 1) : x ^ (2 ^ s) % n = 1 := by
  have e : 2 ^ s = 2 ^ j * 2 * 2 ^ (s - j - 1) := by
    rw [← Nat.pow_succ, ← Nat.pow_add]; congr 1; omega
  rw [e, Nat.pow_mul]
  refine pow_one_mod hn ?_
  rw [Nat.pow_mul, Nat.pow_mod, h]; exact sq_pred hn
theorem pass_fermat {n b : Nat} (hn : 3 ≤ n) (hn2 : n ≤ 2147483648) (hodd : n % 2 = 1) (hc : Nat.Coprime n b) (h : mrPass n b = true) : b ^ (n - 1) % n = 1 := by
  have hm := mr_mul n
  have hx : mrX n b = b ^ mrD n % n := by unfold mrX fpow; rw [← Nat.pow_mod]
  have hs : 1 ≤ mrS n := by
    rcases Nat.eq_zero_or_pos (mrS n) with h0 | h0
    · exfalso
      have hd := mr_odd n (by omega) hn2
      rw [h0, Nat.pow_zero, Nat.mul_one] at hm
      omega
    · exact h0
  have key : ∀ j, j < mrS n → (b ^ mrD n) ^ (2 ^ j) % n = n - 1 → b ^ (n - 1) % n = 1 := fun j hj he => by
    rw [← hm, Nat.pow_mul]; exact pow_up (by omega) hj he
  by_cases h1 : mrX n b = 1
  · rw [← hm, Nat.pow_mul]; exact pow_one_mod (by omega) (by rw [← hx]; exact h1)
  · by_cases h2 : mrX n b = 0
    · exfalso
      rw [hx] at h2
      have hd : n ∣ b ^ mrD n := Nat.dvd_of_mod_eq_zero h2
      have := (Nat.Coprime.pow_right (mrD n) hc).eq_one_of_dvd hd
      omega
    · by_cases h3 : mrX n b = n - 1
      · exact key 0 hs (by rw [Nat.pow_zero, Nat.pow_one, ← hx]; exact h3)
      · rw [← mr_later n b (by intro h; rcases h with h | h | h <;> contradiction)] at h
        obtain ⟨j, j1, j2, j3⟩ := mrGo_fermat (by omega) _ _ h
        refine key j (by omega) ?_
        rw [hx, ← Nat.pow_mod] at j3; exact j3
/-! ### A quick test -/
def mrXF (n b : Nat) : Nat := fp (b % n) (mrD n) n
theorem mrXF_eq (n b : Nat) : mrXF n b = mrX n b := by unfold mrXF mrX fpow; exact fp_eq _ _ _
def mrPassF (n b : Nat) : Bool := if mrXF n b = 1 ∨ mrXF n b = 0 ∨ mrXF n b = n - 1 then true else mrGo n (mrS n - 1) (mrXF n b)
theorem mrPassF_eq (n b : Nat) : mrPassF n b = mrPass n b := by unfold mrPassF mrPass; rw [mrXF_eq]
/-- n does not pass. -/
def tst (n : Nat) : Bool := !(Nat.beq (fp 2 (n - 1) n) 1) || !(mrPassF n 2 && mrPassF n 3 && mrPassF n 5 && mrPassF n 7)
/-- n passes for all four bases, and is prime to them. -/
structure Pass4 (n : Nat) : Prop where
  lo : 3 ≤ n
  hi : n ≤ 1073741824
  odd : n % 2 = 1
  c2 : Nat.Coprime n 2
  c3 : Nat.Coprime n 3
  c5 : Nat.Coprime n 5
  c7 : Nat.Coprime n 7
  p2 : mrPass n 2 = true
  p3 : mrPass n 3 = true
  p5 : mrPass n 5 = true
  p7 : mrPass n 7 = true
theorem Pass4.tst {n : Nat} (h : Pass4 n) : tst n = false := by
  have h2 := pass_fermat h.lo (by have := h.hi; omega) h.odd h.c2 h.p2
  unfold Go.Proofs.YtjckpammcgeloaaDoor.tst
  rw [mrPassF_eq, mrPassF_eq, mrPassF_eq, mrPassF_eq, h.p2, h.p3, h.p5, h.p7, fp_eq, h2]; rfl
theorem Pass4.f2 {n : Nat} (h : Pass4 n) : 2 ^ (n - 1) % n = 1 := pass_fermat h.lo (by have := h.hi; omega) h.odd h.c2 h.p2
theorem Pass4.f3 {n : Nat} (h : Pass4 n) : 3 ^ (n - 1) % n = 1 := pass_fermat h.lo (by have := h.hi; omega) h.odd h.c3 h.p3
theorem Pass4.f5 {n : Nat} (h : Pass4 n) : 5 ^ (n - 1) % n = 1 := pass_fermat h.lo (by have := h.hi; omega) h.odd h.c5 h.p5
theorem Pass4.f7 {n : Nat} (h : Pass4 n) : 7 ^ (n - 1) % n = 1 := pass_fermat h.lo (by have := h.hi; omega) h.odd h.c7 h.p7
theorem coprime_of_mod {n q : Nat} (hq : PrimeN q) (h : ¬ n % q = 0) : Nat.Coprime n q := by
  have := hq.coprime (a := n) (fun e => h (Nat.mod_eq_zero_of_dvd e))
  exact this.symm
theorem vGo_step {n b : Nat} {l : List Nat} (h : vGo n (b :: l) = true) : n = b ∨ (¬ n % b = 0 ∧ mrPass n b = true ∧ vGo n l = true) := by
  by_cases h1 : n = b
  · exact .inl h1
  · by_cases h2 : n % b = 0
    · rw [vGo_div h1 h2] at h; cases h
    · by_cases h3 : mrPass n b = true
      · rw [vGo_pass h1 h2 h3] at h; exact .inr ⟨h2, h3, h⟩
      · rw [vGo_fail h1 h2 (by simpa using h3)] at h; cases h
theorem valid_pass {n : Nat} (h : validI (n : Int) = true) : n = 2 ∨ n = 3 ∨ n = 5 ∨ n = 7 ∨ Pass4 n := by
  have h2 : 2 ≤ n := by
    rcases Nat.lt_or_ge n 2 with h1 | h1
    · rw [← validI_small (p := (n : Int)) (by omega)] at h; cases h
    · exact h1
  rw [← validI_nat h2] at h
  by_cases hb : n < 2 ∨ 1073741824 < n ∨ (2 < n ∧ n % 2 = 0)
  · unfold validF at h; rw [if_pos hb] at h; cases h
  · rw [← validF_go hb] at h
    rcases vGo_step h with e | ⟨a2, b2, h⟩
    · exact .inl e
    · rcases vGo_step h with e | ⟨a3, b3, h⟩
      · exact .inr (.inl e)
      · rcases vGo_step h with e | ⟨a5, b5, h⟩
        · exact .inr (.inr (.inl e))
        · rcases vGo_step h with e | ⟨a7, b7, -⟩
          · exact .inr (.inr (.inr (.inl e)))
          · exact .inr (.inr (.inr (.inr ⟨by omega, by omega, by omega, coprime_of_mod prime_2 a2, coprime_of_mod prime_3 a3, coprime_of_mod prime_5 a5, coprime_of_mod prime_7 a7, b2, b3, b5, b7⟩)))
end Go.Proofs.YtjckpammcgeloaaDoor
namespace Go.Proofs.YtjckpammcgeloaaDoor

def Ones (r k : Nat) : Prop := 2 ^ k % r = 1 ∧ 3 ^ k % r = 1 ∧ 5 ^ k % r = 1 ∧ 7 ^ k % r = 1
/-- Plain recursors: quick in the kernel. -/
noncomputable def bnd (x y : Bool) : Bool := @Bool.rec (fun _ => Bool) false y x
noncomputable def bor (x y : Bool) : Bool := @Bool.rec (fun _ => Bool) y true x
theorem bnd_iff {x y : Bool} : bnd x y = true ↔ x = true ∧ y = true := by cases x <;> cases y <;> simp [bnd]
theorem bor_iff {x y : Bool} : bor x y = true ↔ x = true ∨ y = true := by cases x <;> cases y <;> simp [bor]
/-- The argument is worked out first. -/
noncomputable def frc (x : Nat) (f : Nat → Bool) : Bool := @Nat.rec (fun _ => Bool) true (fun k _ => f k) (Nat.succ x)
theorem frc_eq (x : Nat) (f : Nat → Bool) : frc x f = f x := rfl
def fpR (b e n : Nat) : Nat := fpk 1024 1048576 b e n
theorem fpR_eq (b e n : Nat) : fpR b e n = b ^ e % n := fp_eq b e n
noncomputable def slow (n : Nat) : Bool := !(mrPassF n 2 && mrPassF n 3 && mrPassF n 5 && mrPassF n 7)
noncomputable def tstQ (n : Nat) : Bool := frc (Nat.sub n 1) fun e => @Bool.rec (fun _ => Bool) true (bor (Nat.blt 1073741824 n) (slow n)) (Nat.beq (fpR 2 e n) 1)
theorem tstQ_no {n : Nat} (h : Pass4 n) (ht : tstQ n = true) : False := by
  unfold tstQ at ht
  rw [frc_eq, fpR_eq] at ht
  have e : 2 ^ (Nat.sub n 1) % n = 1 := h.f2
  rw [e] at ht
  have ht : bor (Nat.blt 1073741824 n) (slow n) = true := ht
  have ht : slow n = true := by
    rcases bor_iff.1 ht with h1 | h1
    · rw [Nat.blt_eq] at h1; have := h.hi; omega
    · exact h1
  unfold slow at ht
  rw [mrPassF_eq, mrPassF_eq, mrPassF_eq, mrPassF_eq, h.p2, h.p3, h.p5, h.p7] at ht
  cases ht
noncomputable def ones (r k : Nat) : Bool := bnd (Nat.beq (fpR 2 k r) 1) (bnd (Nat.beq (fpR 3 k r) 1) (bnd (Nat.beq (fpR 5 k r) 1) (Nat.beq (fpR 7 k r) 1)))
theorem ones_iff (r k : Nat) : ones r k = true ↔ Ones r k := by
  unfold ones Ones
  simp only [bnd_iff, Nat.beq_eq, fpR_eq]
theorem Ones.mul {r k : Nat} (hr : 2 ≤ r) (h : Ones r k) (m : Nat) : Ones r (k * m) := by
  obtain ⟨h2, h3, h5, h7⟩ := h
  refine ⟨?_, ?_, ?_, ?_⟩ <;> (rw [Nat.pow_mul]; refine pow_one_mod hr ?_; assumption)
theorem pow_mod_one {r a k m : Nat} (h : a ^ m % r = 1) (h2 : a ^ k % r = 1) (hr : 2 ≤ r) : a ^ (k % m) % r = 1 := by
  have e : a ^ k = (a ^ m) ^ (k / m) * a ^ (k % m) := by rw [← Nat.pow_mul, ← Nat.pow_add, Nat.div_add_mod]
  rw [e, Nat.mul_mod, pow_one_mod hr h, Nat.one_mul, Nat.mod_mod] at h2
  exact h2
theorem Ones.mod {r k m : Nat} (hr : 2 ≤ r) (h : Ones r m) (h2 : Ones r k) : Ones r (k % m) :=
  ⟨pow_mod_one h.1 h2.1 hr, pow_mod_one h.2.1 h2.2.1 hr, pow_mod_one h.2.2.1 h2.2.2.1 hr, pow_mod_one h.2.2.2 h2.2.2.2 hr⟩
theorem Ones.gcd {r : Nat} (hr : 2 ≤ r) (m k : Nat) : Ones r m → Ones r k → Ones r (Nat.gcd m k) := by
  refine Nat.gcd.induction (P := fun m k => Ones r m → Ones r k → Ones r (Nat.gcd m k)) m k (fun n _ h => by rw [Nat.gcd_zero_left]; exact h) (fun m n hm ih h1 h2 => ?_)
  rw [Nat.gcd_rec]; exact ih (h1.mod hr h2) h1
noncomputable def ordE (r L e : Nat) : Bool := @Bool.rec (fun _ => Bool) true (bnd (Bool.not (ones r (Nat.div L e))) (Bool.not (bnd (Nat.blt e L) (ones r e)))) (Nat.beq (Nat.mod L e) 0)
theorem ordE_at {r L e : Nat} (h : ordE r L e = true) (hd : L % e = 0) : ¬ Ones r (L / e) ∧ ¬ (e < L ∧ Ones r e) := by
  have e1 : Nat.mod L e = 0 := hd
  unfold ordE at h
  rw [e1] at h
  have h := bnd_iff.1 (show bnd (Bool.not (ones r (Nat.div L e))) (Bool.not (bnd (Nat.blt e L) (ones r e))) = true from h)
  obtain ⟨h1, h2⟩ := h
  refine ⟨fun hh => ?_, fun ⟨h3, h4⟩ => ?_⟩
  · rw [show Nat.div L e = L / e from rfl, (ones_iff _ _).2 hh] at h1; cases h1
  · rw [bnd_iff.2 ⟨by rw [Nat.blt_eq]; exact h3, (ones_iff _ _).2 h4⟩] at h2; cases h2
noncomputable def ordAll (r L n : Nat) : Bool := @Nat.rec (fun _ => Bool) true (fun e ih => bnd (frc (Nat.add e 2) (ordE r L)) ih) n
theorem ordAll_at {r L : Nat} : ∀ n, ordAll r L n = true → ∀ e, 2 ≤ e → e < n + 2 → ordE r L e = true
  | 0, _, e, h1, h2 => absurd h1 (by omega)
  | n + 1, h, e, h1, h2 => by
    have ee : ordAll r L (n + 1) = bnd (ordE r L (n + 2)) (ordAll r L n) := rfl
    rw [ee, bnd_iff] at h
    by_cases he : e = n + 2
    · subst he; exact h.1
    · exact ordAll_at n h.2 e h1 (by omega)
/-- L is the least exponent. -/
noncomputable def ordOK (r L : Nat) : Bool := bnd (Nat.blt 0 L) (bnd (Nat.blt L 33000) (bnd (ones r L) (ordAll r L 180)))
theorem ordOK_dvd {r L k : Nat} (hr : 3 ≤ r) (h : ordOK r L = true) (hk : Ones r k) : L ∣ k := by
  unfold ordOK at h
  simp only [bnd_iff] at h
  obtain ⟨h0, hL, h1, hall⟩ := h
  have h0 : 0 < L := by simpa [Nat.blt_eq] using h0
  have hL : L < 33000 := by simpa [Nat.blt_eq] using hL
  have hd := Ones.gcd (by omega) L k ((ones_iff r L).1 h1) hk
  have hg := Nat.gcd_dvd_left L k
  generalize hgd : Nat.gcd L k = d at *
  have hdk : d ∣ k := by rw [← hgd]; exact Nat.gcd_dvd_right L k
  obtain ⟨m, hm⟩ := hg
  have chk := ordAll_at 180 hall
  by_cases hm1 : m = 1
  · rw [hm, hm1, Nat.mul_one]; exact hdk
  · exfalso
    have hm0 : ¬ m = 0 := fun e => by rw [e, Nat.mul_zero] at hm; omega
    have hd0 : 0 < d := by
      rcases Nat.eq_zero_or_pos d with e | e
      · rw [e, Nat.zero_mul] at hm; omega
      · exact e
    by_cases hbig : m ≤ 181
    · have hc := chk m (by omega) (by omega)
      have e1 : L % m = 0 := by rw [hm]; exact Nat.mul_mod_left d m
      have e2 : L / m = d := by rw [hm]; exact Nat.mul_div_cancel d (by omega)
      have h5 := (ordE_at hc e1).1
      rw [e2] at h5
      exact h5 hd
    · have hdl : d ≤ 181 := by
        rcases Nat.lt_or_ge 181 d with h | h
        · have := Nat.mul_le_mul h (show 182 ≤ m by omega); omega
        · exact h
      by_cases hd1 : d = 1
      · subst hd1
        have := hd.1
        rw [Nat.pow_one, Nat.mod_eq_of_lt (by omega)] at this; omega
      · have hc := chk d (by omega) (by omega)
        have e1 : L % d = 0 := by rw [hm]; exact Nat.mul_mod_right d m
        refine (ordE_at hc e1).2 ⟨?_, hd⟩
        rw [hm]
        have := Nat.mul_le_mul_left d (show 2 ≤ m by omega); omega
end Go.Proofs.YtjckpammcgeloaaDoor
namespace Go.Proofs.YtjckpammcgeloaaDoor

/-- The number r * s does not pass. -/
noncomputable def cand (r s : Nat) : Bool := frc s fun s => @Bool.rec (fun _ => Bool) true (frc (Nat.mul r s) tstQ) (Nat.beq (Nat.gcd s 105) 1)
theorem cand_no {r s : Nat} (h : cand r s = true) (hp : Pass4 (r * s)) : False := by
  unfold cand at h
  rw [frc_eq, frc_eq] at h
  have h1 : Nat.Coprime 105 (r * s) := ((hp.c3.mul_right hp.c5).mul_right hp.c7).symm
  have h2 : Nat.gcd s 105 = 1 := (h1.symm.coprime_dvd_left (Nat.dvd_mul_left s r))
  rw [h2] at h
  exact tstQ_no hp h
/-- The numbers r * (1 + t * L), b < t <= b + n, do not pass. -/
noncomputable def blk (r L b n : Nat) : Bool := @Nat.rec (fun _ => Bool) true (fun t ih => bnd (cand r (Nat.succ (Nat.mul (Nat.add b (Nat.succ t)) L))) ih) n
theorem blk_at {r L b : Nat} : ∀ n, blk r L b n = true → ∀ t, b < t → t ≤ b + n → cand r (t * L + 1) = true
  | 0, _, t, h1, h2 => absurd h1 (by omega)
  | n + 1, h, t, h1, h2 => by
    have e : blk r L b (n + 1) = bnd (cand r ((b + (n + 1)) * L + 1)) (blk r L b n) := rfl
    rw [e, bnd_iff] at h
    by_cases ht : t = b + (n + 1)
    · subst ht; exact h.1
    · exact blk_at n h.2 t h1 (by omega)
noncomputable def blks (r L n : Nat) : Bool := @Nat.rec (fun _ => Bool) true (fun b ih => bnd (frc (Nat.mul 100 b) fun b => blk r L b 100) ih) n
theorem blks_at {r L : Nat} : ∀ n, blks r L n = true → ∀ t, 0 < t → t ≤ 100 * n → cand r (t * L + 1) = true
  | 0, _, t, h1, h2 => absurd h1 (by omega)
  | n + 1, h, t, h1, h2 => by
    have e : blks r L (n + 1) = bnd (blk r L (100 * n) 100) (blks r L n) := rfl
    rw [e, bnd_iff] at h
    by_cases ht : 100 * n < t
    · exact blk_at 100 h.1 t ht (by omega)
    · exact blks_at n h.2 t h1 (by omega)
/-! ### One prime -/
def smallP : List Nat := [2, 3, 5, 7, 11, 13, 17, 19, 23, 29, 31, 37, 41, 43, 47, 53, 59, 61, 67, 71, 73, 79, 83, 89, 97, 101, 103, 107, 109, 113, 127, 131, 137, 139, 149, 151, 157, 163, 167, 173, 179, 181]
def P181 : Nat := 5397346292805549782720214077673687806275517530364350655459511599582614290
theorem P181_eq : prodL smallP = P181 := by decide +kernel
noncomputable def chkL (r L : Nat) : Bool := frc L fun L => bnd (ordOK r L) (blks r L (Nat.succ (Nat.div (Nat.div (Nat.div 1073741824 r) L) 100)))
noncomputable def chkP (r : Nat) : Bool := bor (chkL r (Nat.div (Nat.sub r 1) 4)) (bor (chkL r (Nat.div (Nat.sub r 1) 3)) (bor (chkL r (Nat.div (Nat.sub r 1) 2)) (chkL r (Nat.sub r 1))))
noncomputable def chk (r : Nat) : Bool := @Bool.rec (fun _ => Bool) true (chkP r) (Nat.beq (Nat.gcd r P181) 1)
theorem chkL_no {r L s : Nat} (hr : PrimeN r) (h181 : 181 < r) (h : chkL r L = true) (hs : 2 ≤ s) (hp : Pass4 (r * s)) : False := by
  unfold chkL at h
  rw [frc_eq, bnd_iff] at h
  obtain ⟨ho, hb⟩ := h
  have hcop : ∀ a, 2 ≤ a → a < r → a ^ (r - 1) % r = 1 := fun a h1 h2 => flt hr (fun e => by have := Nat.le_of_dvd (by omega) e; omega)
  have h1 := ordOK_dvd (by omega) ho (k := r - 1) ⟨hcop 2 (by omega) (by omega), hcop 3 (by omega) (by omega), hcop 5 (by omega) (by omega), hcop 7 (by omega) (by omega)⟩
  have hdn : ∀ a, a ^ (r * s - 1) % (r * s) = 1 → a ^ (r * s - 1) % r = 1 := fun a h => by
    rw [← Nat.mod_mul_right_mod _ r s, h]; exact Nat.mod_eq_of_lt (by omega)
  have h2 := ordOK_dvd (by omega) ho (k := r * s - 1) ⟨hdn 2 hp.f2, hdn 3 hp.f3, hdn 5 hp.f5, hdn 7 hp.f7⟩
  have hrs : r * s - 1 = (r - 1) * s + (s - 1) := by
    rw [Nat.sub_mul]; have := Nat.mul_le_mul_right s (show 1 ≤ r by omega); omega
  rw [hrs] at h2
  have h3 : L ∣ s - 1 := (Nat.dvd_add_right (Nat.dvd_trans h1 (Nat.dvd_mul_right _ _))).1 h2
  obtain ⟨t, ht⟩ := h3
  have hL : 0 < L := by
    rcases Nat.eq_zero_or_pos L with e | e
    · subst e; omega
    · exact e
  have ht0 : 0 < t := by
    rcases Nat.eq_zero_or_pos t with e | e
    · subst e; omega
    · exact e
  have hhi := hp.hi
  have ht1 : t ≤ 1073741824 / r / L := by
    rw [Nat.le_div_iff_mul_le hL, Nat.le_div_iff_mul_le (by omega)]
    have : t * L * r ≤ r * s := by
      rw [Nat.mul_comm t L, ← ht, Nat.mul_comm]; exact Nat.mul_le_mul_left r (by omega)
    omega
  have hT := blks_at _ hb t ht0 (show t ≤ 100 * Nat.succ (1073741824 / r / L / 100) by omega)
  rw [show t * L + 1 = s by rw [Nat.mul_comm, ← ht]; omega] at hT
  exact cand_no hT hp
theorem chk_no {r s : Nat} (hr : PrimeN r) (h181 : 181 < r) (h : chk r = true) (hs : 2 ≤ s) (hp : Pass4 (r * s)) : False := by
  have hnd : ¬ r ∣ P181 := by
    rw [← P181_eq]
    refine prime_prodL hr smallP (fun x hx hd => ?_)
    have h1 : ∀ x ∈ smallP, 0 < x ∧ x ≤ 181 := by decide +kernel
    obtain ⟨h2, h3⟩ := h1 x hx
    have := Nat.le_of_dvd h2 hd; omega
  have hg : Nat.gcd r P181 = 1 := hr.coprime hnd
  unfold chk at h
  rw [hg] at h
  have h : chkP r = true := h
  unfold chkP at h
  simp only [bor_iff] at h
  rcases h with h | h | h | h <;> exact chkL_no hr h181 h hs hp
/-- All odd r with lo < r <= lo + 2 n (lo even). -/
noncomputable def chks (lo n : Nat) : Bool := @Nat.rec (fun _ => Bool) true (fun i ih => bnd (frc (Nat.succ (Nat.add lo (Nat.mul 2 i))) chk) ih) n
theorem chks_at {lo : Nat} : ∀ n, chks lo n = true → ∀ i, i < n → chk (lo + 2 * i + 1) = true
  | 0, _, i, h => absurd h (by omega)
  | n + 1, h, i, h1 => by
    have e : chks lo (n + 1) = bnd (chk (lo + 2 * n + 1)) (chks lo n) := rfl
    rw [e, bnd_iff] at h
    by_cases hi : i = n
    · subst hi; exact h.1
    · exact chks_at n h.2 i (by omega)
end Go.Proofs.YtjckpammcgeloaaDoor
namespace Go.Proofs.YtjckpammcgeloaaDoor
theorem chks_276 : chks 276 15 = true := by kernel_rfl
theorem chks_366 : chks 366 26 = true := by kernel_rfl
theorem chks_576 : chks 576 66 = true := by kernel_rfl
theorem chks_1302 : chks 1302 393 = true := by kernel_rfl
theorem chks_3688 : chks 3688 400 = true := by kernel_rfl
theorem chks_6088 : chks 6088 400 = true := by kernel_rfl
theorem chks_6888 : chks 6888 400 = true := by kernel_rfl
theorem chks_10888 : chks 10888 400 = true := by kernel_rfl
theorem chks_13288 : chks 13288 400 = true := by kernel_rfl
theorem chks_14888 : chks 14888 400 = true := by kernel_rfl
theorem chks_18088 : chks 18088 400 = true := by kernel_rfl
theorem chks_24488 : chks 24488 400 = true := by kernel_rfl
theorem chks_26088 : chks 26088 400 = true := by kernel_rfl
theorem chks_27688 : chks 27688 400 = true := by kernel_rfl
end Go.Proofs.YtjckpammcgeloaaDoor
namespace Go.Proofs.YtjckpammcgeloaaDoor
theorem chks_190 : chks 190 3 = true := by kernel_rfl
theorem chks_210 : chks 210 8 = true := by kernel_rfl
theorem chks_418 : chks 418 30 = true := by kernel_rfl
theorem chks_936 : chks 936 183 = true := by kernel_rfl
theorem chks_2088 : chks 2088 400 = true := by kernel_rfl
theorem chks_8488 : chks 8488 400 = true := by kernel_rfl
theorem chks_9288 : chks 9288 400 = true := by kernel_rfl
theorem chks_10088 : chks 10088 400 = true := by kernel_rfl
theorem chks_20488 : chks 20488 400 = true := by kernel_rfl
theorem chks_21288 : chks 21288 400 = true := by kernel_rfl
theorem chks_22088 : chks 22088 400 = true := by kernel_rfl
theorem chks_22888 : chks 22888 400 = true := by kernel_rfl
theorem chks_31688 : chks 31688 400 = true := by kernel_rfl
theorem chks_32488 : chks 32488 140 = true := by kernel_rfl
end Go.Proofs.YtjckpammcgeloaaDoor
namespace Go.Proofs.YtjckpammcgeloaaDoor
theorem chks_180 : chks 180 5 = true := by kernel_rfl
theorem chks_196 : chks 196 7 = true := by kernel_rfl
theorem chks_226 : chks 226 6 = true := by kernel_rfl
theorem chks_330 : chks 330 18 = true := by kernel_rfl
theorem chks_478 : chks 478 49 = true := by kernel_rfl
theorem chks_5288 : chks 5288 400 = true := by kernel_rfl
theorem chks_7688 : chks 7688 400 = true := by kernel_rfl
theorem chks_12488 : chks 12488 400 = true := by kernel_rfl
theorem chks_16488 : chks 16488 400 = true := by kernel_rfl
theorem chks_18888 : chks 18888 400 = true := by kernel_rfl
theorem chks_19688 : chks 19688 400 = true := by kernel_rfl
theorem chks_23688 : chks 23688 400 = true := by kernel_rfl
theorem chks_29288 : chks 29288 400 = true := by kernel_rfl
theorem chks_30088 : chks 30088 400 = true := by kernel_rfl
end Go.Proofs.YtjckpammcgeloaaDoor
namespace Go.Proofs.YtjckpammcgeloaaDoor
theorem chks_238 : chks 238 9 = true := by kernel_rfl
theorem chks_256 : chks 256 10 = true := by kernel_rfl
theorem chks_306 : chks 306 12 = true := by kernel_rfl
theorem chks_708 : chks 708 114 = true := by kernel_rfl
theorem chks_2888 : chks 2888 400 = true := by kernel_rfl
theorem chks_4488 : chks 4488 400 = true := by kernel_rfl
theorem chks_11688 : chks 11688 400 = true := by kernel_rfl
theorem chks_14088 : chks 14088 400 = true := by kernel_rfl
theorem chks_15688 : chks 15688 400 = true := by kernel_rfl
theorem chks_17288 : chks 17288 400 = true := by kernel_rfl
theorem chks_25288 : chks 25288 400 = true := by kernel_rfl
theorem chks_26888 : chks 26888 400 = true := by kernel_rfl
theorem chks_28488 : chks 28488 400 = true := by kernel_rfl
theorem chks_30888 : chks 30888 400 = true := by kernel_rfl
end Go.Proofs.YtjckpammcgeloaaDoor
namespace Go.Proofs.YtjckpammcgeloaaDoor

theorem ex_prime : ∀ m : Nat, 2 ≤ m → ∃ p, PrimeN p ∧ p ∣ m := by
  intro m
  induction m using Nat.strongRecOn with
  | ind m ih =>
    intro hm
    by_cases hp : PrimeN m
    · exact ⟨m, hp, Nat.dvd_refl m⟩
    · have : ∃ d, d ∣ m ∧ d ≠ 1 ∧ d ≠ m := by
        refine Classical.byContradiction fun hn => hp ⟨hm, fun d hd => ?_⟩
        by_cases h1 : d = 1
        · exact .inl h1
        · by_cases h2 : d = m
          · exact .inr h2
          · exact absurd ⟨d, hd, h1, h2⟩ hn
      obtain ⟨d, hd, h1, h2⟩ := this
      have hle := Nat.le_of_dvd (by omega) hd
      have hd0 : d ≠ 0 := fun e => by subst e; have := Nat.eq_zero_of_zero_dvd hd; omega
      obtain ⟨p, hp, hpd⟩ := ih d (by omega) (by omega)
      exact ⟨p, hp, Nat.dvd_trans hpd hd⟩
/-- T holds of all products n * m up to N, m of primes in l. -/
noncomputable def dfs (T : Nat → Bool) (N : Nat) (k : Nat) : Nat → List Nat → Bool :=
  @Nat.rec (fun _ => Nat → List Nat → Bool) (fun _ _ => false)
    (fun _ F n l => @List.rec Nat (fun _ => Bool) true (fun q rest ih => frc (Nat.mul n q) fun m => @Bool.rec (fun _ => Bool) (bnd (T m) (bnd (F m (List.cons q rest)) ih)) true (Nat.blt N m)) l) k
theorem dfs_cons (T : Nat → Bool) (N k n q : Nat) (rest : List Nat) : dfs T N (k + 1) n (q :: rest) = @Bool.rec (fun _ => Bool) (bnd (T (n * q)) (bnd (dfs T N k (n * q) (q :: rest)) (dfs T N (k + 1) n rest))) true (Nat.blt N (n * q)) := rfl
theorem dfs_at {T : Nat → Bool} {N : Nat} : ∀ k n l, dfs T N k n l = true → 0 < n → l.Pairwise (· ≤ ·) → ∀ m, 2 ≤ m → (∀ q, PrimeN q → q ∣ m → q ∈ l) → n * m ≤ N → T (n * m) = true
  | 0, n, l, h => by cases (show false = true from h)
  | k + 1, n, [], h => by
    intro hn hs m hm hq
    obtain ⟨p, hp, hd⟩ := ex_prime m hm
    cases hq p hp hd
  | k + 1, n, q :: rest, h => by
    intro hn hs m hm hq hN
    rw [dfs_cons] at h
    rw [List.pairwise_cons] at hs
    have hqm : q ≤ m := by
      obtain ⟨p, hp, hd⟩ := ex_prime m hm
      have h1 := Nat.le_of_dvd (by omega) hd
      rcases List.mem_cons.1 (hq p hp hd) with e | e
      · omega
      · have := hs.1 p e; omega
    have hb : Nat.blt N (n * q) = false := by
      have := Nat.mul_le_mul_left n hqm
      cases hbb : Nat.blt N (n * q) with
      | false => rfl
      | true => rw [Nat.blt_eq] at hbb; omega
    rw [hb] at h
    have h : bnd (T (n * q)) (bnd (dfs T N k (n * q) (q :: rest)) (dfs T N (k + 1) n rest)) = true := h
    rw [bnd_iff, bnd_iff] at h
    obtain ⟨h1, h2, h3⟩ := h
    by_cases hd : q ∣ m
    · obtain ⟨m', rfl⟩ := hd
      have hq0 : 0 < q := by
        rcases Nat.eq_zero_or_pos q with e | e
        · subst e; omega
        · exact e
      rw [← Nat.mul_assoc]
      by_cases hm1 : m' = 1
      · rw [hm1, Nat.mul_one]; exact h1
      · refine dfs_at k (n * q) (q :: rest) h2 (Nat.mul_pos hn hq0) (List.pairwise_cons.2 hs) m' ?_ (fun p hp hd => hq p hp (Nat.dvd_trans hd (Nat.dvd_mul_left m' q))) (by rw [Nat.mul_assoc]; exact hN)
        rcases Nat.eq_zero_or_pos m' with e | e
        · subst e; omega
        · omega
    · refine dfs_at (k + 1) n rest h3 hn hs.2 m hm (fun p hp hpd => ?_) hN
      rcases List.mem_cons.1 (hq p hp hpd) with e | e
      · subst e; exact absurd hpd hd
      · exact e
/-- The same from each prime of the list on. -/
def AllS (T : Nat → Bool) (N k : Nat) : List Nat → Prop
  | [] => True
  | q :: rest => dfs T N k q (q :: rest) = true ∧ AllS T N k rest
theorem AllS.at {T : Nat → Bool} {N k : Nat} : ∀ {l : List Nat}, AllS T N k l → l.Pairwise (· ≤ ·) → ∀ m, 2 ≤ m → (∀ q, PrimeN q → q ∣ m → q ∈ l) → m ≤ N → m ∈ l ∨ T m = true
  | [], _, _, m, hm, hq, _ => by
    obtain ⟨p, hp, hd⟩ := ex_prime m hm
    cases hq p hp hd
  | q :: rest, h, hs, m, hm, hq, hN => by
    by_cases hd : q ∣ m
    · obtain ⟨m', rfl⟩ := hd
      by_cases hm1 : m' = 1
      · left; rw [hm1, Nat.mul_one]; simp
      · right
        have hq0 : 0 < q := by
          rcases Nat.eq_zero_or_pos q with e | e
          · subst e; omega
          · exact e
        refine dfs_at k q (q :: rest) h.1 hq0 hs m' ?_ (fun p hp hd => hq p hp (Nat.dvd_trans hd (Nat.dvd_mul_left m' q))) hN
        rcases Nat.eq_zero_or_pos m' with e | e
        · subst e; omega
        · omega
    · rcases AllS.at h.2 (List.pairwise_cons.1 hs).2 m hm (fun p hp hpd => by
        rcases List.mem_cons.1 (hq p hp hpd) with e | e
        · subst e; exact absurd hpd hd
        · exact e) hN with h1 | h1
      · left; simp [h1]
      · exact .inr h1
/-! ### A large prime times a small number -/
noncomputable def podd (lo n : Nat) : Nat := @Nat.rec (fun _ => Nat) 1 (fun i ih => Nat.mul (Nat.succ (Nat.add lo (Nat.mul 2 i))) ih) n
noncomputable def podds (n : Nat) : Nat := @Nat.rec (fun _ => Nat) 1 (fun b ih => Nat.mul (podd (Nat.mul 1024 b) 512) ih) n
noncomputable def PP : Nat := podds 32
theorem podd_no {r lo : Nat} (hr : PrimeN r) : ∀ n, lo + 2 * n ≤ r → ¬ r ∣ podd lo n
  | 0, _, h => by
    have h : r ∣ 1 := h
    have := Nat.le_of_dvd (by omega) h; have := hr.1; omega
  | n + 1, hl, h => by
    have h : r ∣ (lo + 2 * n + 1) * podd lo n := h
    rcases hr.euclid h with h | h
    · have := Nat.le_of_dvd (by omega) h; omega
    · exact podd_no hr n (by omega) h
theorem podds_no {r : Nat} (hr : PrimeN r) : ∀ n, 1024 * n ≤ r → ¬ r ∣ podds n
  | 0, _, h => by
    have h : r ∣ 1 := h
    have := Nat.le_of_dvd (by omega) h; have := hr.1; omega
  | n + 1, hl, h => by
    have h : r ∣ podd (1024 * n) 512 * podds n := h
    rcases hr.euclid h with h | h
    · exact podd_no hr 512 (by omega) h
    · exact podds_no hr n (by omega) h
noncomputable def gA (e : Nat) : Nat := Nat.gcd (Nat.gcd (Nat.sub (Nat.pow 2 e) 1) (Nat.sub (Nat.pow 3 e) 1)) (Nat.gcd (Nat.sub (Nat.pow 5 e) 1) (Nat.sub (Nat.pow 7 e) 1))
noncomputable def strp (P g : Nat) : Nat := Nat.div g (Nat.gcd g P)
noncomputable def endA (s h : Nat) : Bool := bor (Nat.beq h 1) (bnd (Nat.blt 0 h) (bnd (Nat.blt h 65536) (tstQ (Nat.mul h s))))
noncomputable def chkA (P s : Nat) : Bool := frc (Nat.sub s 1) fun e => frc (gA e) fun g => frc (strp P g) fun g => frc (strp P g) fun g => frc (strp P g) fun g => endA s g
theorem strp_dvd {r P g : Nat} (hr : PrimeN r) (hP : ¬ r ∣ P) (h : r ∣ g) : r ∣ strp P g := by
  have e : g = Nat.gcd g P * strp P g := (Nat.mul_div_cancel' (Nat.gcd_dvd_left g P)).symm
  rcases hr.euclid (e ▸ h) with h1 | h1
  · exact absurd (Nat.dvd_trans h1 (Nat.gcd_dvd_right g P)) hP
  · exact h1
theorem pred_dvd {a r s : Nat} (hr : PrimeN r) (ha : 2 ≤ a) (har : a < r) (hs : 2 ≤ s) (hsr : s < r) (h : a ^ (r * s - 1) % (r * s) = 1) : r ∣ Nat.sub (Nat.pow a (s - 1)) 1 := by
  have h1 : a ^ (r * s - 1) % r = 1 := by
    rw [← Nat.mod_mul_right_mod _ r s, h]; exact Nat.mod_eq_of_lt (by omega)
  have h2 := pow_mod_one (flt hr (fun e => by have := Nat.le_of_dvd (by omega) e; omega)) h1 (by omega)
  have e : (r * s - 1) % (r - 1) = s - 1 := by
    have e : r * s - 1 = (s - 1) + (r - 1) * s := by
      rw [Nat.sub_mul]; have := Nat.mul_le_mul_right s (show 1 ≤ r by omega); omega
    rw [e, Nat.add_mul_mod_self_left, Nat.mod_eq_of_lt (by omega)]
  rw [e] at h2
  refine Nat.dvd_of_mod_eq_zero ?_
  exact Nat.sub_mod_eq_zero_of_mod_eq (by rw [show Nat.pow a (s - 1) = a ^ (s - 1) from rfl, h2, Nat.mod_eq_of_lt (by omega)])
theorem chkA_no {r s : Nat} (hr : PrimeN r) (hbig : 32768 ≤ r) (hs : 2 ≤ s) (hsr : s < r) (h : chkA PP s = true) (hp : Pass4 (r * s)) : False := by
  have hP : ¬ r ∣ PP := podds_no hr 32 (by omega)
  unfold chkA at h
  rw [frc_eq, frc_eq, frc_eq, frc_eq, frc_eq] at h
  have hg : r ∣ gA (Nat.sub s 1) := by
    unfold gA
    exact Nat.dvd_gcd (Nat.dvd_gcd (pred_dvd hr (by omega) (by omega) hs hsr hp.f2) (pred_dvd hr (by omega) (by omega) hs hsr hp.f3)) (Nat.dvd_gcd (pred_dvd hr (by omega) (by omega) hs hsr hp.f5) (pred_dvd hr (by omega) (by omega) hs hsr hp.f7))
  have hd := strp_dvd hr hP (strp_dvd hr hP (strp_dvd hr hP hg))
  generalize strp PP (strp PP (strp PP (gA (Nat.sub s 1)))) = g at *
  unfold endA at h
  rw [bor_iff, bnd_iff, bnd_iff] at h
  rcases h with h | ⟨h0, h1, h2⟩
  · have h : g = 1 := Nat.eq_of_beq_eq_true h
    subst h
    have := Nat.le_of_dvd (by omega) hd; omega
  · rw [Nat.blt_eq] at h0 h1
    obtain ⟨c, rfl⟩ := hd
    have hc : c = 1 := by
      rcases Nat.lt_or_ge c 2 with h | h
      · rcases Nat.eq_zero_or_pos c with e | e
        · subst e; omega
        · omega
      · have := Nat.mul_le_mul_left r h; omega
    subst hc
    rw [Nat.mul_one] at h2
    exact tstQ_no hp h2
end Go.Proofs.YtjckpammcgeloaaDoor
namespace Go.Proofs.YtjckpammcgeloaaDoor
theorem dfs_11 : dfs tstQ 1073741824 8 11 [11, 13, 17, 19, 23, 29, 31, 37, 41, 43, 47, 53, 59, 61, 67, 71, 73, 79, 83, 89, 97, 101, 103, 107, 109, 113, 127, 131, 137, 139, 149, 151, 157, 163, 167, 173, 179, 181] = true := by kernel_rfl
theorem dfs_13 : dfs tstQ 1073741824 8 13 [13, 17, 19, 23, 29, 31, 37, 41, 43, 47, 53, 59, 61, 67, 71, 73, 79, 83, 89, 97, 101, 103, 107, 109, 113, 127, 131, 137, 139, 149, 151, 157, 163, 167, 173, 179, 181] = true := by kernel_rfl
theorem dfs_17 : dfs tstQ 1073741824 8 17 [17, 19, 23, 29, 31, 37, 41, 43, 47, 53, 59, 61, 67, 71, 73, 79, 83, 89, 97, 101, 103, 107, 109, 113, 127, 131, 137, 139, 149, 151, 157, 163, 167, 173, 179, 181] = true := by kernel_rfl
theorem dfs_19 : dfs tstQ 1073741824 8 19 [19, 23, 29, 31, 37, 41, 43, 47, 53, 59, 61, 67, 71, 73, 79, 83, 89, 97, 101, 103, 107, 109, 113, 127, 131, 137, 139, 149, 151, 157, 163, 167, 173, 179, 181] = true := by kernel_rfl
theorem dfs_23 : dfs tstQ 1073741824 8 23 [23, 29, 31, 37, 41, 43, 47, 53, 59, 61, 67, 71, 73, 79, 83, 89, 97, 101, 103, 107, 109, 113, 127, 131, 137, 139, 149, 151, 157, 163, 167, 173, 179, 181] = true := by kernel_rfl
theorem dfs_29 : dfs tstQ 1073741824 8 29 [29, 31, 37, 41, 43, 47, 53, 59, 61, 67, 71, 73, 79, 83, 89, 97, 101, 103, 107, 109, 113, 127, 131, 137, 139, 149, 151, 157, 163, 167, 173, 179, 181] = true := by kernel_rfl
theorem dfs_31 : dfs tstQ 1073741824 8 31 [31, 37, 41, 43, 47, 53, 59, 61, 67, 71, 73, 79, 83, 89, 97, 101, 103, 107, 109, 113, 127, 131, 137, 139, 149, 151, 157, 163, 167, 173, 179, 181] = true := by kernel_rfl
theorem dfs_37 : dfs tstQ 1073741824 8 37 [37, 41, 43, 47, 53, 59, 61, 67, 71, 73, 79, 83, 89, 97, 101, 103, 107, 109, 113, 127, 131, 137, 139, 149, 151, 157, 163, 167, 173, 179, 181] = true := by kernel_rfl
theorem dfs_41 : dfs tstQ 1073741824 8 41 [41, 43, 47, 53, 59, 61, 67, 71, 73, 79, 83, 89, 97, 101, 103, 107, 109, 113, 127, 131, 137, 139, 149, 151, 157, 163, 167, 173, 179, 181] = true := by kernel_rfl
theorem dfs_43 : dfs tstQ 1073741824 8 43 [43, 47, 53, 59, 61, 67, 71, 73, 79, 83, 89, 97, 101, 103, 107, 109, 113, 127, 131, 137, 139, 149, 151, 157, 163, 167, 173, 179, 181] = true := by kernel_rfl
theorem dfs_47 : dfs tstQ 1073741824 8 47 [47, 53, 59, 61, 67, 71, 73, 79, 83, 89, 97, 101, 103, 107, 109, 113, 127, 131, 137, 139, 149, 151, 157, 163, 167, 173, 179, 181] = true := by kernel_rfl
theorem dfs_53 : dfs tstQ 1073741824 8 53 [53, 59, 61, 67, 71, 73, 79, 83, 89, 97, 101, 103, 107, 109, 113, 127, 131, 137, 139, 149, 151, 157, 163, 167, 173, 179, 181] = true := by kernel_rfl
theorem dfs_59 : dfs tstQ 1073741824 8 59 [59, 61, 67, 71, 73, 79, 83, 89, 97, 101, 103, 107, 109, 113, 127, 131, 137, 139, 149, 151, 157, 163, 167, 173, 179, 181] = true := by kernel_rfl
theorem dfs_61 : dfs tstQ 1073741824 8 61 [61, 67, 71, 73, 79, 83, 89, 97, 101, 103, 107, 109, 113, 127, 131, 137, 139, 149, 151, 157, 163, 167, 173, 179, 181] = true := by kernel_rfl
theorem dfs_67 : dfs tstQ 1073741824 8 67 [67, 71, 73, 79, 83, 89, 97, 101, 103, 107, 109, 113, 127, 131, 137, 139, 149, 151, 157, 163, 167, 173, 179, 181] = true := by kernel_rfl
theorem dfs_71 : dfs tstQ 1073741824 8 71 [71, 73, 79, 83, 89, 97, 101, 103, 107, 109, 113, 127, 131, 137, 139, 149, 151, 157, 163, 167, 173, 179, 181] = true := by kernel_rfl
theorem dfs_73 : dfs tstQ 1073741824 8 73 [73, 79, 83, 89, 97, 101, 103, 107, 109, 113, 127, 131, 137, 139, 149, 151, 157, 163, 167, 173, 179, 181] = true := by kernel_rfl
theorem dfs_79 : dfs tstQ 1073741824 8 79 [79, 83, 89, 97, 101, 103, 107, 109, 113, 127, 131, 137, 139, 149, 151, 157, 163, 167, 173, 179, 181] = true := by kernel_rfl
theorem dfs_83 : dfs tstQ 1073741824 8 83 [83, 89, 97, 101, 103, 107, 109, 113, 127, 131, 137, 139, 149, 151, 157, 163, 167, 173, 179, 181] = true := by kernel_rfl
theorem dfs_89 : dfs tstQ 1073741824 8 89 [89, 97, 101, 103, 107, 109, 113, 127, 131, 137, 139, 149, 151, 157, 163, 167, 173, 179, 181] = true := by kernel_rfl
theorem dfs_97 : dfs tstQ 1073741824 8 97 [97, 101, 103, 107, 109, 113, 127, 131, 137, 139, 149, 151, 157, 163, 167, 173, 179, 181] = true := by kernel_rfl
theorem dfs_101 : dfs tstQ 1073741824 8 101 [101, 103, 107, 109, 113, 127, 131, 137, 139, 149, 151, 157, 163, 167, 173, 179, 181] = true := by kernel_rfl
theorem dfs_103 : dfs tstQ 1073741824 8 103 [103, 107, 109, 113, 127, 131, 137, 139, 149, 151, 157, 163, 167, 173, 179, 181] = true := by kernel_rfl
theorem dfs_107 : dfs tstQ 1073741824 8 107 [107, 109, 113, 127, 131, 137, 139, 149, 151, 157, 163, 167, 173, 179, 181] = true := by kernel_rfl
theorem dfs_109 : dfs tstQ 1073741824 8 109 [109, 113, 127, 131, 137, 139, 149, 151, 157, 163, 167, 173, 179, 181] = true := by kernel_rfl
theorem dfs_113 : dfs tstQ 1073741824 8 113 [113, 127, 131, 137, 139, 149, 151, 157, 163, 167, 173, 179, 181] = true := by kernel_rfl
theorem dfs_127 : dfs tstQ 1073741824 8 127 [127, 131, 137, 139, 149, 151, 157, 163, 167, 173, 179, 181] = true := by kernel_rfl
theorem dfs_131 : dfs tstQ 1073741824 8 131 [131, 137, 139, 149, 151, 157, 163, 167, 173, 179, 181] = true := by kernel_rfl
theorem dfs_137 : dfs tstQ 1073741824 8 137 [137, 139, 149, 151, 157, 163, 167, 173, 179, 181] = true := by kernel_rfl
theorem dfs_139 : dfs tstQ 1073741824 8 139 [139, 149, 151, 157, 163, 167, 173, 179, 181] = true := by kernel_rfl
theorem dfs_149 : dfs tstQ 1073741824 8 149 [149, 151, 157, 163, 167, 173, 179, 181] = true := by kernel_rfl
theorem dfs_151 : dfs tstQ 1073741824 8 151 [151, 157, 163, 167, 173, 179, 181] = true := by kernel_rfl
theorem dfs_157 : dfs tstQ 1073741824 8 157 [157, 163, 167, 173, 179, 181] = true := by kernel_rfl
theorem dfs_163 : dfs tstQ 1073741824 8 163 [163, 167, 173, 179, 181] = true := by kernel_rfl
theorem dfs_167 : dfs tstQ 1073741824 8 167 [167, 173, 179, 181] = true := by kernel_rfl
theorem dfs_173 : dfs tstQ 1073741824 8 173 [173, 179, 181] = true := by kernel_rfl
theorem dfs_179 : dfs tstQ 1073741824 8 179 [179, 181] = true := by kernel_rfl
theorem dfs_181 : dfs tstQ 1073741824 8 181 [181] = true := by kernel_rfl
theorem allS_Q : AllS tstQ 1073741824 8 [11, 13, 17, 19, 23, 29, 31, 37, 41, 43, 47, 53, 59, 61, 67, 71, 73, 79, 83, 89, 97, 101, 103, 107, 109, 113, 127, 131, 137, 139, 149, 151, 157, 163, 167, 173, 179, 181] := ⟨dfs_11, dfs_13, dfs_17, dfs_19, dfs_23, dfs_29, dfs_31, dfs_37, dfs_41, dfs_43, dfs_47, dfs_53, dfs_59, dfs_61, dfs_67, dfs_71, dfs_73, dfs_79, dfs_83, dfs_89, dfs_97, dfs_101, dfs_103, dfs_107, dfs_109, dfs_113, dfs_127, dfs_131, dfs_137, dfs_139, dfs_149, dfs_151, dfs_157, dfs_163, dfs_167, dfs_173, dfs_179, dfs_181, True.intro⟩
end Go.Proofs.YtjckpammcgeloaaDoor
namespace Go.Proofs.YtjckpammcgeloaaDoor
theorem dfsA : frc PP (fun P => dfs (chkA P) 32767 5 1 [11, 13, 17, 19, 23, 29, 31, 37, 41, 43, 47, 53, 59, 61, 67, 71, 73, 79, 83, 89, 97, 101, 103, 107, 109, 113, 127, 131, 137, 139, 149, 151, 157, 163, 167, 173, 179, 181]) = true := by kernel_rfl
end Go.Proofs.YtjckpammcgeloaaDoor
namespace Go.Proofs.YtjckpammcgeloaaDoor

theorem chks_get {lo n r : Nat} (h : chks lo n = true) (h1 : lo < r) (h2 : r ≤ lo + 2 * n) (he : lo % 2 = 0) (ho : r % 2 = 1) : chk r = true := by
  have := chks_at n h ((r - lo - 1) / 2) (by omega)
  rw [show lo + 2 * ((r - lo - 1) / 2) + 1 = r by omega] at this
  exact this
theorem chk_all {r : Nat} (h1 : 180 < r) (h2 : r ≤ 32768) (ho : r % 2 = 1) : chk r = true := by
  rcases Nat.lt_or_ge 190 r with h1 | h
  case inr => exact chks_get chks_180 (by omega) (by omega) (by omega) ho
  rcases Nat.lt_or_ge 196 r with h1 | h
  case inr => exact chks_get chks_190 (by omega) (by omega) (by omega) ho
  rcases Nat.lt_or_ge 210 r with h1 | h
  case inr => exact chks_get chks_196 (by omega) (by omega) (by omega) ho
  rcases Nat.lt_or_ge 226 r with h1 | h
  case inr => exact chks_get chks_210 (by omega) (by omega) (by omega) ho
  rcases Nat.lt_or_ge 238 r with h1 | h
  case inr => exact chks_get chks_226 (by omega) (by omega) (by omega) ho
  rcases Nat.lt_or_ge 256 r with h1 | h
  case inr => exact chks_get chks_238 (by omega) (by omega) (by omega) ho
  rcases Nat.lt_or_ge 276 r with h1 | h
  case inr => exact chks_get chks_256 (by omega) (by omega) (by omega) ho
  rcases Nat.lt_or_ge 306 r with h1 | h
  case inr => exact chks_get chks_276 (by omega) (by omega) (by omega) ho
  rcases Nat.lt_or_ge 330 r with h1 | h
  case inr => exact chks_get chks_306 (by omega) (by omega) (by omega) ho
  rcases Nat.lt_or_ge 366 r with h1 | h
  case inr => exact chks_get chks_330 (by omega) (by omega) (by omega) ho
  rcases Nat.lt_or_ge 418 r with h1 | h
  case inr => exact chks_get chks_366 (by omega) (by omega) (by omega) ho
  rcases Nat.lt_or_ge 478 r with h1 | h
  case inr => exact chks_get chks_418 (by omega) (by omega) (by omega) ho
  rcases Nat.lt_or_ge 576 r with h1 | h
  case inr => exact chks_get chks_478 (by omega) (by omega) (by omega) ho
  rcases Nat.lt_or_ge 708 r with h1 | h
  case inr => exact chks_get chks_576 (by omega) (by omega) (by omega) ho
  rcases Nat.lt_or_ge 936 r with h1 | h
  case inr => exact chks_get chks_708 (by omega) (by omega) (by omega) ho
  rcases Nat.lt_or_ge 1302 r with h1 | h
  case inr => exact chks_get chks_936 (by omega) (by omega) (by omega) ho
  rcases Nat.lt_or_ge 2088 r with h1 | h
  case inr => exact chks_get chks_1302 (by omega) (by omega) (by omega) ho
  rcases Nat.lt_or_ge 2888 r with h1 | h
  case inr => exact chks_get chks_2088 (by omega) (by omega) (by omega) ho
  rcases Nat.lt_or_ge 3688 r with h1 | h
  case inr => exact chks_get chks_2888 (by omega) (by omega) (by omega) ho
  rcases Nat.lt_or_ge 4488 r with h1 | h
  case inr => exact chks_get chks_3688 (by omega) (by omega) (by omega) ho
  rcases Nat.lt_or_ge 5288 r with h1 | h
  case inr => exact chks_get chks_4488 (by omega) (by omega) (by omega) ho
  rcases Nat.lt_or_ge 6088 r with h1 | h
  case inr => exact chks_get chks_5288 (by omega) (by omega) (by omega) ho
  rcases Nat.lt_or_ge 6888 r with h1 | h
  case inr => exact chks_get chks_6088 (by omega) (by omega) (by omega) ho
  rcases Nat.lt_or_ge 7688 r with h1 | h
  case inr => exact chks_get chks_6888 (by omega) (by omega) (by omega) ho
  rcases Nat.lt_or_ge 8488 r with h1 | h
  case inr => exact chks_get chks_7688 (by omega) (by omega) (by omega) ho
  rcases Nat.lt_or_ge 9288 r with h1 | h
  case inr => exact chks_get chks_8488 (by omega) (by omega) (by omega) ho
  rcases Nat.lt_or_ge 10088 r with h1 | h
  case inr => exact chks_get chks_9288 (by omega) (by omega) (by omega) ho
  rcases Nat.lt_or_ge 10888 r with h1 | h
  case inr => exact chks_get chks_10088 (by omega) (by omega) (by omega) ho
  rcases Nat.lt_or_ge 11688 r with h1 | h
  case inr => exact chks_get chks_10888 (by omega) (by omega) (by omega) ho
  rcases Nat.lt_or_ge 12488 r with h1 | h
  case inr => exact chks_get chks_11688 (by omega) (by omega) (by omega) ho
  rcases Nat.lt_or_ge 13288 r with h1 | h
  case inr => exact chks_get chks_12488 (by omega) (by omega) (by omega) ho
  rcases Nat.lt_or_ge 14088 r with h1 | h
  case inr => exact chks_get chks_13288 (by omega) (by omega) (by omega) ho
  rcases Nat.lt_or_ge 14888 r with h1 | h
  case inr => exact chks_get chks_14088 (by omega) (by omega) (by omega) ho
  rcases Nat.lt_or_ge 15688 r with h1 | h
  case inr => exact chks_get chks_14888 (by omega) (by omega) (by omega) ho
  rcases Nat.lt_or_ge 16488 r with h1 | h
  case inr => exact chks_get chks_15688 (by omega) (by omega) (by omega) ho
  rcases Nat.lt_or_ge 17288 r with h1 | h
  case inr => exact chks_get chks_16488 (by omega) (by omega) (by omega) ho
  rcases Nat.lt_or_ge 18088 r with h1 | h
  case inr => exact chks_get chks_17288 (by omega) (by omega) (by omega) ho
  rcases Nat.lt_or_ge 18888 r with h1 | h
  case inr => exact chks_get chks_18088 (by omega) (by omega) (by omega) ho
  rcases Nat.lt_or_ge 19688 r with h1 | h
  case inr => exact chks_get chks_18888 (by omega) (by omega) (by omega) ho
  rcases Nat.lt_or_ge 20488 r with h1 | h
  case inr => exact chks_get chks_19688 (by omega) (by omega) (by omega) ho
  rcases Nat.lt_or_ge 21288 r with h1 | h
  case inr => exact chks_get chks_20488 (by omega) (by omega) (by omega) ho
  rcases Nat.lt_or_ge 22088 r with h1 | h
  case inr => exact chks_get chks_21288 (by omega) (by omega) (by omega) ho
  rcases Nat.lt_or_ge 22888 r with h1 | h
  case inr => exact chks_get chks_22088 (by omega) (by omega) (by omega) ho
  rcases Nat.lt_or_ge 23688 r with h1 | h
  case inr => exact chks_get chks_22888 (by omega) (by omega) (by omega) ho
  rcases Nat.lt_or_ge 24488 r with h1 | h
  case inr => exact chks_get chks_23688 (by omega) (by omega) (by omega) ho
  rcases Nat.lt_or_ge 25288 r with h1 | h
  case inr => exact chks_get chks_24488 (by omega) (by omega) (by omega) ho
  rcases Nat.lt_or_ge 26088 r with h1 | h
  case inr => exact chks_get chks_25288 (by omega) (by omega) (by omega) ho
  rcases Nat.lt_or_ge 26888 r with h1 | h
  case inr => exact chks_get chks_26088 (by omega) (by omega) (by omega) ho
  rcases Nat.lt_or_ge 27688 r with h1 | h
  case inr => exact chks_get chks_26888 (by omega) (by omega) (by omega) ho
  rcases Nat.lt_or_ge 28488 r with h1 | h
  case inr => exact chks_get chks_27688 (by omega) (by omega) (by omega) ho
  rcases Nat.lt_or_ge 29288 r with h1 | h
  case inr => exact chks_get chks_28488 (by omega) (by omega) (by omega) ho
  rcases Nat.lt_or_ge 30088 r with h1 | h
  case inr => exact chks_get chks_29288 (by omega) (by omega) (by omega) ho
  rcases Nat.lt_or_ge 30888 r with h1 | h
  case inr => exact chks_get chks_30088 (by omega) (by omega) (by omega) ho
  rcases Nat.lt_or_ge 31688 r with h1 | h
  case inr => exact chks_get chks_30888 (by omega) (by omega) (by omega) ho
  rcases Nat.lt_or_ge 32488 r with h1 | h
  case inr => exact chks_get chks_31688 (by omega) (by omega) (by omega) ho
  exact chks_get chks_32488 (by omega) (by omega) (by omega) ho
def Q181 : List Nat := [11, 13, 17, 19, 23, 29, 31, 37, 41, 43, 47, 53, 59, 61, 67, 71, 73, 79, 83, 89, 97, 101, 103, 107, 109, 113, 127, 131, 137, 139, 149, 151, 157, 163, 167, 173, 179, 181]
theorem Q_sorted : Q181.Pairwise (· ≤ ·) := by decide +kernel
theorem Q_prime : ∀ q ∈ Q181, primeB q 20 = true := by decide +kernel
theorem Q_all : ∀ q, q < 182 → q < 2 ∨ q ∈ Q181 ∨ q ∈ [2, 3, 5, 7] ∨ ∃ d, d < q ∧ 1 < d ∧ q % d = 0 := by
  have h : ∀ q, q < 182 → q < 2 ∨ q ∈ Q181 ∨ q ∈ [2, 3, 5, 7] ∨ (2 < q ∧ q % 2 = 0) ∨ (3 < q ∧ q % 3 = 0) ∨ (5 < q ∧ q % 5 = 0) ∨ (7 < q ∧ q % 7 = 0) ∨ (11 < q ∧ q % 11 = 0) ∨ (13 < q ∧ q % 13 = 0) := by decide +kernel
  intro q hq
  rcases h q hq with h | h | h | h | h | h | h | h | h
  · exact .inl h
  · exact .inr (.inl h)
  · exact .inr (.inr (.inl h))
  all_goals exact .inr (.inr (.inr ⟨_, h.1, by omega, h.2⟩))
theorem Pass4.nd {n : Nat} (h : Pass4 n) {q : Nat} (hd : q ∣ n) (hq : q ∈ [2, 3, 5, 7]) : False := by
  have k : ∀ b, 2 ≤ b → Nat.Coprime n b → ¬ b ∣ n := fun b hb hc hd => by
    have : b ∣ Nat.gcd n b := Nat.dvd_gcd hd (Nat.dvd_refl b)
    rw [hc] at this
    have := Nat.le_of_dvd (by omega) this; omega
  simp only [List.mem_cons, List.not_mem_nil, or_false] at hq
  rcases hq with rfl | rfl | rfl | rfl
  · exact k 2 (by omega) h.c2 hd
  · exact k 3 (by omega) h.c3 hd
  · exact k 5 (by omega) h.c5 hd
  · exact k 7 (by omega) h.c7 hd
theorem Pass4.small {n : Nat} (h : Pass4 n) {q : Nat} (hq : PrimeN q) (hd : q ∣ n) (hs : q < 182) : q ∈ Q181 := by
  have h2 := hq.1
  rcases Q_all q hs with e | e | e | ⟨d, d1, d2, d3⟩
  · omega
  · exact e
  · exact (h.nd hd e).elim
  · rcases hq.2 d (Nat.dvd_of_mod_eq_zero d3) with e | e <;> omega
theorem pass4_prime {n : Nat} (h : Pass4 n) : PrimeN n := by
  refine Classical.byContradiction fun hn => ?_
  have hlo := h.lo
  have hhi := h.hi
  have hodd := h.odd
  have hs2 : ∀ r s, PrimeN r → n = r * s → 2 ≤ s := fun r s hr e => by
    rcases Nat.lt_or_ge s 2 with h1 | h1
    · exfalso
      have : s = 0 ∨ s = 1 := by omega
      rcases this with e1 | e1
      · subst e1; omega
      · subst e1; rw [Nat.mul_one] at e; exact hn (e ▸ hr)
    · exact h1
  by_cases hB : ∃ r, PrimeN r ∧ r ∣ n ∧ 181 < r ∧ r ≤ 32768
  · obtain ⟨r, hr, ⟨s, hrs⟩, h1, h2⟩ := hB
    have hro : r % 2 = 1 := by
      rcases Nat.mod_two_eq_zero_or_one r with e | e
      · have : n % 2 = 0 := by rw [hrs, Nat.mul_mod, e]; simp
        omega
      · exact e
    exact chk_no hr h1 (chk_all (by omega) h2 hro) (hs2 r s hr hrs) (hrs ▸ h)
  · have hcase : ∀ q, PrimeN q → q ∣ n → q ∈ Q181 ∨ 32768 < q := fun q hq hd => by
      rcases Nat.lt_or_ge q 182 with h1 | h1
      · exact .inl (h.small hq hd h1)
      · right
        rcases Nat.lt_or_ge 32768 q with h2 | h2
        · exact h2
        · exact absurd ⟨q, hq, hd, by omega, h2⟩ hB
    by_cases hA : ∃ r, PrimeN r ∧ r ∣ n ∧ 32768 < r
    · obtain ⟨r, hr, ⟨s, hrs⟩, h1⟩ := hA
      have hs := hs2 r s hr hrs
      have hsl : s < 32768 := by
        rcases Nat.lt_or_ge s 32768 with h2 | h2
        · exact h2
        · have := Nat.mul_le_mul (show 32769 ≤ r by omega) h2; omega
      have hA := dfsA
      rw [frc_eq] at hA
      have hc := dfs_at 5 1 Q181 hA (by omega) Q_sorted s hs (fun q hq hd => by
        rcases hcase q hq (hrs ▸ Nat.dvd_trans hd (Nat.dvd_mul_left s r)) with e | e
        · exact e
        · have := Nat.le_of_dvd (by omega) hd; omega) (by omega)
      rw [Nat.one_mul] at hc
      exact chkA_no hr (by omega) hs (by omega) hc (hrs ▸ h)
    · rcases allS_Q.at Q_sorted n (by omega) (fun q hq hd => by
        rcases hcase q hq hd with e | e
        · exact e
        · exact absurd ⟨q, hq, hd, e⟩ hA) (by omega) with h1 | h1
      · exact hn (primeB_sound (Q_prime n h1))
      · exact tstQ_no h h1
theorem validI_sound {n : Nat} (h : validI (n : Int) = true) : PrimeN n := by
  rcases valid_pass h with e | e | e | e | h
  · subst e; exact prime_2
  · subst e; exact prime_3
  · subst e; exact prime_5
  · subst e; exact prime_7
  · exact pass4_prime h
end Go.Proofs.YtjckpammcgeloaaDoor
namespace Go.Proofs.YtjckpammcgeloaaDoor
open Go.RowKit

theorem valid_eq (p : Int) : validI p = primeV p := by
  by_cases h : p ≤ 1073741824 ∧ PrimeN p.toNat
  · obtain ⟨h1, h2⟩ := h
    have h3 := h2.1
    obtain ⟨p, rfl⟩ := Int.eq_ofNat_of_zero_le (show 0 ≤ p by omega)
    rw [Int.toNat_natCast] at h2
    rw [validI_prime h2 (by omega)]; exact primeV_true (by omega) h2
  · rw [← primeV_false h]
    by_cases h2 : p < 2
    · exact (validI_small h2).symm
    · by_cases h3 : 1073741824 < p
      · exact (validI_big h3).symm
      · obtain ⟨p, rfl⟩ := Int.eq_ofNat_of_zero_le (show 0 ≤ p by omega)
        rw [Int.toNat_natCast] at h
        cases hv : validI (p : Int) with
        | false => rfl
        | true => exact absurd ⟨by omega, validI_sound hv⟩ h
theorem prime_eq (p : Int) : primeV p = validI p := (valid_eq p).symm
end Go.Proofs.YtjckpammcgeloaaDoor
namespace Go.Proofs.YtjckpammcgeloaaDoor
open Go.RowKit

theorem dlL_len {p n h : Int} {sec ran : List Int} : (dlL p n h sec ran).length ≤ 16 := by
  unfold dlL
  by_cases e : dlE p n h sec ran = 0
  · rw [if_pos e, deal_len]
    have hpl : plB p n h = true := by
      rcases hp : plB p n h with _ | _
      · rw [dlE_pl hp] at e; cases e
      · rfl
    obtain ⟨b1, b2, b3, b4, b5⟩ : PlanP p n h := of_decide_eq_true hpl
    omega
  · rw [if_neg e]; exact Nat.zero_le _
theorem dlL_short {p n h : Int} {sec ran : List Int} (hl : sec.length ≤ 1048576) : Short (shL (dlL p n h sec ran)) := by
  refine short_shL fun k hk => ?_
  by_cases e : dlE p n h sec ran = 0
  · have hd : dlL p n h sec ran = dealN p.toNat n.toNat h.toNat (sec.map Int.toNat) (ran.map Int.toNat) := by unfold dlL; rw [if_pos e]
    rw [hd] at hk ⊢
    rw [deal_len] at hk
    rw [show dealN p.toNat n.toNat h.toNat (sec.map Int.toNat) (ran.map Int.toNat) = dealtT p.toNat h.toNat (sec.map Int.toNat) (ran.map Int.toNat) (n.toNat - 1) (sec.map Int.toNat).length from rfl, (dealtT_at hk).2]
    simpa using hl
  · rw [dlL_no e] at hk; exact absurd hk (by simp)

/-- A list of numbers, as a slice. -/
structure LI where
  ad : Option Addr
  cp : Nat
  ls : List Int
def LI.val (x : LI) : Value := .slice x.ad x.ls.length x.cp
/-- Block g holds slices of lists of numbers. -/
structure LsAt (P : Nat → Prop) (w : World) (g : Nat) (X : List LI) : Prop where
  blk : w.heap[g]? = some (.cells (X.map LI.val).toArray 22 (0, 0))
  ints : ∀ x ∈ X, IntsP P w x.ad x.cp x.ls ∧ x.ls.length ≤ 1048576
theorem LsAt.lt {P : Nat → Prop} {w : World} {g : Nat} {X : List LI} (H : LsAt P w g X) : g < w.heap.size := blk_lt H.blk
theorem LsAt.keep {P : Nat → Prop} {w w' : World} {g : Nat} {X : List LI} (H : LsAt P w g X) (hk : Kept P w w') (hg : w'.heap[g]? = w.heap[g]?) : LsAt P w' g X :=
  ⟨hg.trans H.blk, fun x hx => ⟨(H.ints x hx).1.keep hk, (H.ints x hx).2⟩⟩
theorem LsAt.below {P : Nat → Prop} {w w' : World} {g : Nat} {X : List LI} (H : LsAt P w g X) (hb : Below w.heap.size w w') : LsAt P w' g X := H.keep (Kept.below hb) (hb.block g H.lt)
theorem LsAt.at_ {P : Nat → Prop} {w : World} {g : Nat} {X : List LI} (H : LsAt P w g X) (i : Nat) (hi : i < X.length) :
    ∃ A c L, w.cell? ⟨g, i, none⟩ = some (.slice A L.length c) ∧ IntsP P w A c L ∧ L.length ≤ 1048576 := by
  refine ⟨X[i].ad, X[i].cp, X[i].ls, ?_, H.ints _ (List.getElem_mem hi)⟩
  rw [cell_of_row w g i _ _ (0, 0) H.blk]
  simp [hi, LI.val]
/-- Block g holds three plans. -/
def Plan3 (w : World) (g : Nat) (a b c d e f x y z : Int) : Prop := w.heap[g]? = some (.cells #[.int .i64 a, .int .i64 b, .int .i64 c, .int .i64 d, .int .i64 e, .int .i64 f, .int .i64 x, .int .i64 y, .int .i64 z] 29 (0, 0))
theorem Plan3.at_ {w : World} {g : Nat} {a b c d e f x y z : Int} (H : Plan3 w g a b c d e f x y z) (i : Nat) (hi : i < 3) :
    ∃ P N Q : Int, w.cell? ⟨g, i * 3, none⟩ = some (.int .i64 P) ∧ w.cell? ⟨g, i * 3 + 1, none⟩ = some (.int .i64 N) ∧ w.cell? ⟨g, i * 3 + 2, none⟩ = some (.int .i64 Q) := by
  have h : ∀ j, w.cell? ⟨g, j, none⟩ = (#[.int .i64 a, .int .i64 b, .int .i64 c, .int .i64 d, .int .i64 e, .int .i64 f, .int .i64 x, .int .i64 y, .int .i64 z] : Array Value)[j]? := fun j => cell_of_row w g j _ _ (0, 0) H
  obtain rfl | rfl | rfl : i = 0 ∨ i = 1 ∨ i = 2 := by omega
  · exact ⟨a, b, c, h 0, h 1, h 2⟩
  · exact ⟨d, e, f, h 3, h 4, h 5⟩
  · exact ⟨x, y, z, h 6, h 7, h 8⟩
/-- What stands while plans are tried. -/
structure DSt (w0 w : World) (D : Nat) (R : List Int) (px p n q pl : Nat) (a b c d e f x y z : Int) (A1 : Option Addr) (c1 : Nat) (L1 : List Int) (A2 : Option Addr) (c2 : Nat) (L2 : List Int) (GA : Option Addr) (gc : Nat) (G : List Nat) : Prop where
  env : Env w0 w D R
  pp : PlanCell w px p n q
  p3 : Plan3 w pl a b c d e f x y z
  s1 : IntsP (· ≠ D) w A1 c1 L1
  s2 : IntsP (· ≠ D) w A2 c2 L2
  gd : IntsP (· ≠ D) w GA gc (ofN G)
  ne : px ≠ D
  nl : pl ≠ D
section
variable {w0 w w' : World} {D : Nat} {R R' : List Int} {px p n q pl : Nat} {a b c d e f x y z : Int} {A1 : Option Addr} {c1 : Nat} {L1 : List Int} {A2 : Option Addr} {c2 : Nat} {L2 : List Int} {GA : Option Addr} {gc : Nat} {G : List Nat}
theorem DSt.below (H : DSt w0 w D R px p n q pl a b c d e f x y z A1 c1 L1 A2 c2 L2 GA gc G) (hb : Below w.heap.size w w') : DSt w0 w' D R px p n q pl a b c d e f x y z A1 c1 L1 A2 c2 L2 GA gc G :=
  ⟨H.env.mv hb, H.pp.below hb, (hb.block _ (blk_lt H.p3)).trans H.p3, H.s1.keep (Kept.below hb), H.s2.keep (Kept.below hb), H.gd.keep (Kept.below hb), H.ne, H.nl⟩
theorem DSt.mv (H : DSt w0 w D R px p n q pl a b c d e f x y z A1 c1 L1 A2 c2 L2 GA gc G) (hd : DiceAt w' D R') (hg : w.grownBy w' (some D)) : DSt w0 w' D R' px p n q pl a b c d e f x y z A1 c1 L1 A2 c2 L2 GA gc G :=
  ⟨H.env.next hd hg, H.pp.mv hg H.ne, (hg.block _ (blk_lt H.p3) (fun e => H.nl (Option.some.inj e))).trans H.p3, H.s1.keep (Kept.mv hg), H.s2.keep (Kept.mv hg), H.gd.keep (Kept.mv hg), H.ne, H.nl⟩
end
theorem LsAt.mv {w w' : World} {D g : Nat} {X : List LI} (H : LsAt (· ≠ D) w g X) (hg : w.grownBy w' (some D)) (hne : g ≠ D) : LsAt (· ≠ D) w' g X := H.keep (Kept.mv hg) (hg.block g H.lt (fun e => hne (Option.some.inj e)))
theorem LsAt.two {P : Nat → Prop} {w : World} {g c1 c2 : Nat} {A1 A2 : Option Addr} {L1 L2 : List Int} (hg : w.heap[g]? = some (.cells #[.slice A1 L1.length c1, .slice A2 L2.length c2] 22 (0, 0))) (h1 : IntsP P w A1 c1 L1) (h2 : IntsP P w A2 c2 L2) (hl1 : L1.length ≤ 1048576) (hl2 : L2.length ≤ 1048576) :
    LsAt P w g [⟨A1, c1, L1⟩, ⟨A2, c2, L2⟩] :=
  ⟨hg, fun x hx => by simp at hx; rcases hx with rfl | rfl; exact ⟨h1, hl1⟩; exact ⟨h2, hl2⟩⟩
theorem LsAt.three {P : Nat → Prop} {w : World} {g c1 c2 : Nat} {A1 A2 : Option Addr} {L1 L2 : List Int} (hg : w.heap[g]? = some (.cells #[.slice A1 L1.length c1, .slice A2 L2.length c2, .slice none 0 0] 22 (0, 0))) (h1 : IntsP P w A1 c1 L1) (h2 : IntsP P w A2 c2 L2) (hl1 : L1.length ≤ 1048576) (hl2 : L2.length ≤ 1048576) :
    LsAt P w g [⟨A1, c1, L1⟩, ⟨A2, c2, L2⟩, ⟨none, 0, []⟩] :=
  ⟨hg, fun x hx => by simp at hx; rcases hx with rfl | rfl | rfl; exact ⟨h1, hl1⟩; exact ⟨h2, hl2⟩; exact ⟨IntsP.nil _ _, by simp⟩⟩
theorem elems_new2 {D n p : Nat} {w w' : World} {e : Ending} (h : ElemsP D n p w e w') :
    ∃ A c L R', e = .returned (.slice A L.length c) ∧ L.length = n ∧ (∀ x ∈ L, x < p) ∧ SlOK A c L ∧ IntsP (fun b => w.heap.size ≤ b) w' A c (ofN L) ∧ DiceAt w' D R' ∧ w.grownBy w' (some D) := by
  obtain ⟨v, L, R', rfl, hL, hp, hown, hd, hg⟩ := h
  obtain ⟨A, c, rfl, h1, h2, h3⟩ := own_sl hown rfl
  exact ⟨A, c, L, R', rfl, hL, hp, h2, ⟨h1.ints, by rw [len_ofN]; exact h2.iok, fun b off e => .inr (h3 b off e).1⟩, hd, hg⟩
end Go.Proofs.YtjckpammcgeloaaDoor
namespace Go.Proofs.YtjckpammcgeloaaDoor
open Go.RowKit

def smB (S : List Shr) : Bool := S.all (fun s => decide (s.2.length ≤ 20)) && decide (S.length ≤ 12)
theorem smB_no {S : List Shr} {k : Nat} (hk : k < S.length) (h : ¬ (vS S k).length ≤ 20) : false = smB S := by
  unfold smB
  have : S.all (fun s => decide (s.2.length ≤ 20)) = false := by
    rw [List.all_eq_false]
    exact ⟨S[k], List.getElem_mem hk, by simp [vS, List.getD_eq_getElem?_getD, hk] at h; simp; omega⟩
  rw [this]; rfl
theorem smB_yes {S : List Shr} (h : ∀ j, j < S.length → (vS S j).length ≤ 20) : decide ((S.length : Int) ≤ 12) = smB S := by
  unfold smB
  have : S.all (fun s => decide (s.2.length ≤ 20)) = true := by
    rw [List.all_eq_true]
    intro s hs
    obtain ⟨k, hk, rfl⟩ := List.getElem_of_mem hs
    have := h k hk
    simp [vS, List.getD_eq_getElem?_getD, hk] at this
    simp; exact this
  rw [this, Bool.true_and, Bool.eq_iff_iff, decide_eq_true_eq, decide_eq_true_eq]; omega
theorem smB_of {S : List Shr} (h : smB S = true) : S.length ≤ 12 ∧ Wide 20 S := by
  unfold smB at h
  rw [Bool.and_eq_true, List.all_eq_true, decide_eq_true_eq] at h
  refine ⟨h.2, fun k hk => ?_⟩
  have := h.1 S[k] (List.getElem_mem hk)
  simp [vS, List.getD_eq_getElem?_getD, hk]; simpa using this
set_option maxRecDepth 100000 in
set_option maxHeartbeats 1000000 in
theorem small_any {P : Nat → Prop} (A : Option Addr) (c : Nat) (S : List Shr) (w : World) (hS : ShP P w A c S) (hl : S.length ≤ maxLen) :
    Calls Tryd.prog 16 #[.slice A S.length c] w (RetB (.bool (smB S)) w) := by
  have hl2 : S.length ≤ 9223372036854775807 := by unfold maxLen at hl; omega
  have HS := Lib.hid hS
  clear hS
  go_enter Tryd.func16, Tryd.ntmps16
  go_wp2_with fail
  go_loopw [7] (fun i wr => ∃ k : Nat, k ≤ S.length ∧ i = .int .i64 k ∧ (∀ j, j < k → (vS S j).length ≤ 20) ∧ Below w.heap.size w wr) (fun i _ => S.length - (intOf i).toNat)
  case atStart => exact ⟨0, Nat.zero_le _, rfl, fun j hj => absurd hj (by omega), Below.refl _ _⟩
  case round =>
    obtain ⟨k, hk, rfl, hpre, hbr⟩ := hrel
    have HP := Lib.hid hpre
    have hsz := hbr.size
    clear hpre
    by_cases hlt : k < S.length
    · obtain ⟨b, off, B, c', rfl, hbl, -, q0, q1, -⟩ := (HS.out.below hbr).at_ k hlt
      by_cases h20 : (vS S k).length ≤ 20
      · have H20 := Lib.hid h20
        have t : decide ((20 : Int) < ((vS S k).length : Int)) = false := decide_eq_false (by omega)
        go_wp2_with fail
        go_roundw
        case rel =>
          refine ⟨k + 1, by omega, by go_num, fun j hj => ?_, below_trans hbr (below_alloc _ _)⟩
          by_cases hjk : j = k
          · subst hjk; exact H20.out
          · exact HP.out j (by omega)
        case measure => simp [intOf]; omega
      · have HV := Lib.hid (smB_no hlt h20)
        have t : decide ((20 : Int) < ((vS S k).length : Int)) = true := decide_eq_true (by omega)
        go_wp2_with fail
        go_ret
        exact RetB.bool HV.out (below_trans hbr (below_alloc _ _))
    · obtain rfl : k = S.length := by omega
      have HV := Lib.hid (smB_yes HP.out)
      go_wp2_with fail
      go_ret
      exact RetB.bool HV.out hbr

/-- A list of shares, as a slice. -/
structure SI where
  ad : Option Addr
  cp : Nat
  ls : List Shr
def SI.val (x : SI) : Value := .slice x.ad x.ls.length x.cp
/-- Block g holds slices of shares. -/
structure SsAt (P : Nat → Prop) (w : World) (g : Nat) (X : List SI) : Prop where
  blk : w.heap[g]? = some (.cells (X.map SI.val).toArray 33 (0, 0))
  shs : ∀ x ∈ X, ShP P w x.ad x.cp x.ls ∧ x.ls.length ≤ 20 ∧ Wide 30 x.ls
theorem SsAt.lt {P : Nat → Prop} {w : World} {g : Nat} {X : List SI} (H : SsAt P w g X) : g < w.heap.size := blk_lt H.blk
theorem SsAt.keep {P : Nat → Prop} {w w' : World} {g : Nat} {X : List SI} (H : SsAt P w g X) (hk : Kept P w w') (hg : w'.heap[g]? = w.heap[g]?) : SsAt P w' g X :=
  ⟨hg.trans H.blk, fun x hx => ⟨(H.shs x hx).1.keep hk, (H.shs x hx).2⟩⟩
theorem SsAt.below {P : Nat → Prop} {w w' : World} {g : Nat} {X : List SI} (H : SsAt P w g X) (hb : Below w.heap.size w w') : SsAt P w' g X := H.keep (Kept.below hb) (hb.block g H.lt)
theorem SsAt.mv {w w' : World} {D g : Nat} {X : List SI} (H : SsAt (· ≠ D) w g X) (hg : w.grownBy w' (some D)) (hne : g ≠ D) : SsAt (· ≠ D) w' g X := H.keep (Kept.mv hg) (hg.block g H.lt (fun e => hne (Option.some.inj e)))
theorem SsAt.at_ {P : Nat → Prop} {w : World} {g : Nat} {X : List SI} (H : SsAt P w g X) (i : Nat) (hi : i < X.length) :
    ∃ A c S, w.cell? ⟨g, i, none⟩ = some (.slice A S.length c) ∧ ShP P w A c S ∧ S.length ≤ 20 ∧ Wide 30 S := by
  refine ⟨X[i].ad, X[i].cp, X[i].ls, ?_, H.shs _ (List.getElem_mem hi)⟩
  rw [cell_of_row w g i _ _ (0, 0) H.blk]
  simp [hi, SI.val]
theorem Wide.mono {M K : Nat} {S : List Shr} (h : Wide M S) (hk : M ≤ K) : Wide K S := fun k hk' => by have := h k hk'; omega
theorem Wide.short {M : Nat} {S : List Shr} (h : Wide M S) (hk : M ≤ 1048576) : Short S := fun k hk' => by have := h k hk'; omega
/-- What stands while lists of shares are tried. -/
structure CSt (w0 w : World) (D : Nat) (R : List Int) (px p n h ox m : Nat) (LA : Option Addr) (lc : Nat) (N : List ShN) (g : Nat) (X : List SI) : Prop where
  env : Env w0 w D R
  pp : PlanCell w px p n h
  po : PlanCell w ox p m h
  ll : ShP (· ≠ D) w LA lc (shL N)
  ss : SsAt (· ≠ D) w g X
  ne : px ≠ D
  no : ox ≠ D
  ng : g ≠ D
section
variable {w0 w w' : World} {D : Nat} {R R' : List Int} {px p n h ox m : Nat} {LA : Option Addr} {lc : Nat} {N : List ShN} {g : Nat} {X : List SI}
theorem CSt.below (H : CSt w0 w D R px p n h ox m LA lc N g X) (hb : Below w.heap.size w w') : CSt w0 w' D R px p n h ox m LA lc N g X :=
  ⟨H.env.mv hb, H.pp.below hb, H.po.below hb, H.ll.below hb, H.ss.below hb, H.ne, H.no, H.ng⟩
theorem CSt.mv (H : CSt w0 w D R px p n h ox m LA lc N g X) (hd : DiceAt w' D R') (hg : w.grownBy w' (some D)) : CSt w0 w' D R' px p n h ox m LA lc N g X :=
  ⟨H.env.next hd hg, H.pp.mv hg H.ne, H.po.mv hg H.no, H.ll.mv hg, H.ss.mv hg H.ng, H.ne, H.no, H.ng⟩
end
theorem OddP.open_ {D M : Nat} {S : List Shr} {w w' : World} {e : Ending} (h : OddP D M S w e w') : ∃ (A : Option Addr) (c : Nat) (S' : List Shr) (R' : List Int), e = .returned (.slice A S'.length c) ∧ ShP (· ≠ D) w' A c S' ∧ S'.length ≤ S.length + 1 ∧ Wide (M + 1) S' ∧ DiceAt w' D R' ∧ w.grownBy w' (some D) := by
  obtain ⟨A, c, S', R', h0, h1, h2, h3, h4, h5, -⟩ := h
  exact ⟨A, c, S', R', h0, h1, h2, h3, h4, h5⟩
/-- Two equal lists, for a region. -/
theorem sameB (A A' : Option Addr) (L : List Nat) (k k' c c' : Nat) (w : World) (hL : NatsAt w A L) (hM : NatsAt w A' L) (hl : L.length ≤ 1152921504606846976) (hk : k = L.length) (hk' : k' = L.length) :
    Calls Tryd.prog 42 #[.slice A k c, .slice A' k' c'] w (RetB (.bool true) w) := by
  refine (same_at A A' L k k' c c' w hL hM hl hk hk').mono ?_
  rintro e w' ⟨rfl, rfl⟩
  exact ⟨rfl, Below.refl _ _⟩
theorem cmL_len {p n h : Int} {S : List Shr} (hW : Wide 30 S) (hl : S.length ≤ 20) : (cmL p n h S).length ≤ 1000 := by
  unfold cmL
  by_cases e : cmE p n h S = 0
  · rw [if_pos e, combN_len]
    rcases Nat.eq_zero_or_pos S.length with h0 | h0
    · have : S = [] := List.eq_nil_of_length_eq_zero h0
      subst this; simp [natL, vN]
    · have := hW 0 h0
      have e2 : (vN (natL S) 0).length = (vS S 0).length := by simp [vN, vS, natL, natS, List.getD_eq_getElem?_getD, h0]
      omega
  · rw [if_neg e]; simp
theorem adL_len {p n h x y : Int} {L M : List Int} (hL : L.length ≤ 1000) (hM : M.length ≤ 1000) : (adL p n h x y L M).length ≤ 1000 := by
  unfold adL
  split
  · rw [linN_len]; simp; omega
  · simp
theorem lit_sh {P : Nat → Prop} {w : World} {g c : Nat} {x : Int} {B : Option Addr} {L : List Int} (hw : w.heap[g]? = some (.cells #[.int .i64 x, .slice B L.length c] 35 (0, 0))) (hP : P g) (hI : IntsP P w B c L) : ShP P w (some ⟨g, 0, none⟩) 1 [(x, L)] := by
  refine ⟨fun k hk => ?_, ⟨by simp, by unfold maxLen; omega, (fun e => by cases e), .inr (fun a e => by injection e with e; subst e; rfl)⟩⟩
  have hk0 : k = 0 := by simp at hk; omega
  subst hk0
  refine ⟨g, 0, B, c, rfl, blk_lt hw, hP, ?_, ?_, hI⟩
  · rw [cell_of_row w g _ _ _ (0, 0) hw]; rfl
  · rw [cell_of_row w g _ _ _ (0, 0) hw]; rfl
theorem short_one {x : Int} {L : List Int} (hL : L.length ≤ 1048576) : Short [(x, L)] := fun k hk => by
  have hk0 : k = 0 := by simp at hk; omega
  subst hk0; exact hL
theorem SsAt.five {P : Nat → Prop} {w : World} {g c1 c2 c3 c4 c5 k1 k2 k3 k4 k5 : Nat} {A1 A2 A3 A4 A5 : Option Addr} {S1 S2 S3 S4 S5 : List Shr} (hg : w.heap[g]? = some (.cells #[.slice A1 k1 c1, .slice A2 k2 c2, .slice A3 k3 c3, .slice A4 k4 c4, .slice A5 k5 c5] 33 (0, 0)))
    (e1 : k1 = S1.length) (e2 : k2 = S2.length) (e3 : k3 = S3.length) (e4 : k4 = S4.length) (e5 : k5 = S5.length)
    (h1 : ShP P w A1 c1 S1 ∧ S1.length ≤ 20 ∧ Wide 30 S1) (h2 : ShP P w A2 c2 S2 ∧ S2.length ≤ 20 ∧ Wide 30 S2) (h3 : ShP P w A3 c3 S3 ∧ S3.length ≤ 20 ∧ Wide 30 S3) (h4 : ShP P w A4 c4 S4 ∧ S4.length ≤ 20 ∧ Wide 30 S4) (h5 : ShP P w A5 c5 S5 ∧ S5.length ≤ 20 ∧ Wide 30 S5) :
    SsAt P w g [⟨A1, c1, S1⟩, ⟨A2, c2, S2⟩, ⟨A3, c3, S3⟩, ⟨A4, c4, S4⟩, ⟨A5, c5, S5⟩] := by
  subst e1 e2 e3 e4 e5
  exact ⟨hg, fun x hx => by simp at hx; rcases hx with rfl | rfl | rfl | rfl | rfl; exact h1; exact h2; exact h3; exact h4; exact h5⟩
theorem Made.wide {p n h : Nat} {sec : List Nat} {N : List ShN} (H : Made p n h sec N) {M : Nat} (hm : sec.length ≤ M) : Wide M (shL N) := fun k hk => by
  rw [shL_len] at hk
  rw [vS_shL, len_ofN, H.vlen hk]; exact hm
theorem ShP.two {w w' : World} {D o : Nat} {A : Option Addr} {c : Nat} {S : List Shr} (h : ShP (fun b => b ≠ D ∧ b ≠ o) w A c S) (hg : w.grownBy w' (some D)) : ShP (fun b => b ≠ D ∧ b ≠ o) w' A c S :=
  h.keep ⟨hg.size, fun b hb hlt => (Kept.mv hg).block b hb.1 hlt⟩
theorem ShP.set2 {w : World} {D o j : Nat} {A : Option Addr} {c : Nat} {S : List Shr} (h : ShP (fun b => b ≠ D ∧ b ≠ o) w A c S) (u : Value) : ShP (· ≠ D) (w.setCell ⟨o, j, none⟩ u) A c S :=
  (h.keep ⟨by simp [World.setCell], fun b hb _ => Below.heap_setCell w ⟨o, j, none⟩ u b hb.2⟩).mono (fun _ _ hb => hb.1)
theorem blk2_1 (w : World) (a b : Obj) : ((w.alloc a).alloc b).heap[w.heap.size]? = some a := (heap_alloc_old _ b (by simp)).trans (heap_alloc_new w a)
theorem blk2_2 (w : World) (a b : Obj) : ((w.alloc a).alloc b).heap[w.heap.size + 1]? = some b := by
  have h1 := heap_alloc_new (w.alloc a) b
  rw [size_alloc] at h1
  exact h1
theorem blk_old {w : World} {x : Nat} {a : Obj} (b : Obj) (h : w.heap[x]? = some a) : (w.alloc b).heap[x]? = some a := (heap_alloc_old w b (blk_lt h)).trans h
theorem blk3_2 (w : World) (a b c : Obj) : (((w.alloc a).alloc b).alloc c).heap[w.heap.size + 1]? = some b := by
  have h1 := heap_alloc_new (w.alloc a) b
  rw [size_alloc] at h1
  exact (heap_alloc_old _ c (by simp)).trans h1
theorem blk3_3 (w : World) (a b c : Obj) : (((w.alloc a).alloc b).alloc c).heap[w.heap.size + 1 + 1]? = some c := by
  have h1 := heap_alloc_new ((w.alloc a).alloc b) c
  rw [size_alloc, size_alloc] at h1
  exact h1
theorem Plan3.below {w w' : World} {g : Nat} {a b c d e f x y z : Int} (H : Plan3 w g a b c d e f x y z) (hb : Below w.heap.size w w') : Plan3 w' g a b c d e f x y z := (hb.block _ (blk_lt H)).trans H
end Go.Proofs.YtjckpammcgeloaaDoor
