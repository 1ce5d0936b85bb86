/-
  AttackerAll: the walk.
  A slice of numbers that came in reads as a list.
  Conditions: those that each theorem names.
-/
import Derived.Test.YtjckpammcgeloaaDoorM12
set_option linter.unusedVariables false
set_option linter.unusedSimpArgs false
namespace Go.Proofs.YtjckpammcgeloaaDoor
open Go.RowKit

/-- A number below n. -/
def Pr.nat {R : World → World → Prop} (n : Nat) : Pr R := ⟨fun u _ => ∃ k : Nat, u = .int .i64 (k : Int) ∧ k < n, fun _ _ _ h _ => h⟩
theorem nat_next (R : List Int) (n : Nat) (hn : 0 < n) : ∃ k : Nat, Value.int .i64 (nextV R n) = .int .i64 (k : Int) ∧ k < n := by
  obtain ⟨h1, h2⟩ := nextV_range R n (by omega)
  exact ⟨(nextV R n).toNat, by rw [Int.toNat_of_nonneg h1], by omega⟩
theorem allIx : Ixs 1 (fun _ => 5) (fun _ => 6) (fun _ => 7) := ⟨by decide, by decide, by decide, by decide, by decide, by decide⟩
theorem chk_fine {p pn ph : Nat} {hh k : Int} (hpr : PrimeN p) (hp : p ≤ 500000003) (hp2 : 11 ≤ p) (h1 : 1 ≤ pn) (h2 : pn ≤ ph) (h3 : ph ≤ 5) (h4 : 1 ≤ hh) (h5 : hh ≤ ph) (hk : inI k 0 5 = true) : chkE p pn ph hh k = 0 :=
  (chk_ok (plB_true h1 h2 (by omega) (by omega) (prime_valid hpr (by omega)).2) (by unfold inI; simp; omega) hk).symm
section
variable {p pn ph : Nat} {hh lb : Int} {G O X : GiftD} (hc : ∀ k, inI k 0 5 = true → chkE p pn ph hh k = 0) (hh2 : G.h = hh)
include hc hh2
theorem sp_l2 : spE p pn ph hh 2 G = 0 ∧ spB p pn ph hh 2 G = true ∧ spG p pn ph hh 2 lb G O X = mapG (shS p (moreI p lb)) G := sp_ok (hc 2 (by decide)) hh2 (by omega)
theorem sp_l1 : spE p pn ph hh 1 G = 0 ∧ spB p pn ph hh 1 G = true ∧ spG p pn ph hh 1 lb G O X = valG p lb G := sp_ok (hc 1 (by decide)) hh2 (by omega)
theorem sp_l0 : spE p pn ph hh 0 G = 0 ∧ spB p pn ph hh 0 G = true ∧ spG p pn ph hh 0 lb G O X = G := sp_ok (hc 0 (by decide)) hh2 (by omega)
end
theorem tiny_map {G : GiftD} {p : Nat} {c : Int} (h : GTiny G) : GTiny (mapG (shS p c) G) :=
  ⟨fun k hk => by show (vS (G.bx.map (shS p c)) k).length ≤ 1000; rw [vS_shS, shvL_len]; exact h.b k (by simpa [mapG] using hk), fun k hk => by show (vS (G.wh.map (shS p c)) k).length ≤ 1000; rw [vS_shS, shvL_len]; exact h.w k (by simpa [mapG] using hk), by show (shvL p c G.kv).length ≤ 1000; rw [shvL_len]; exact h.k, by show (G.bx.map (shS p c)).length ≤ 1000; rw [List.length_map]; exact h.bl, by show (G.wh.map (shS p c)).length ≤ 1000; rw [List.length_map]; exact h.wl⟩
theorem vS_valB {p : Nat} {b : Int} {S : List Shr} {k : Nat} : (vS (valB p b S) k).length = (vS S k).length := by
  unfold valB
  generalize (plI b S.length).toNat = j
  rcases Nat.lt_or_ge j S.length with h | h
  · by_cases hjk : j = k
    · subst hjk; rw [vS_set_same h, fstV_len]
    · rw [vS_set_ne hjk]
  · rw [List.set_eq_of_length_le h]
theorem tiny_val {G : GiftD} {p : Nat} {b : Int} (h : GTiny G) : GTiny (valG p b G) :=
  ⟨fun k hk => by show (vS (valB p b G.bx) k).length ≤ 1000; rw [vS_valB]; exact h.b k (by have e : (valG p b G).bx.length = G.bx.length := valB_len _ _ _; omega), h.w, h.k, by show (valB p b G.bx).length ≤ 1000; rw [valB_len]; exact h.bl, h.wl⟩
def allPL (D p pn ph : Nat) (hh : Int) : List (Pr (fun _ _ => True)) := [Pr.eq (.pointer (some ⟨D, 0, none⟩)), Pr.eq (planV p pn ph), Pr.eq (.int .i64 hh), Pr.eq (.pointer (some ⟨D, 0, none⟩)), Pr.nat 4, Pr.any, Pr.any, Pr.any]
set_option maxRecDepth 100000 in
set_option maxHeartbeats 16000000 in
theorem attackerAll_walk (A0 : Option Addr) (L0 : List Int) (c0 : Nat) (by' : Int) (w : World) (hB : Bases w) (hl0 : L0.length ≤ maxLen) (hI0 : IntsAt w A0 L0) (_ : ∀ n ∈ L0, -9223372036854775808 ≤ n ∧ n ≤ 9223372036854775807) (_ : -9223372036854775808 ≤ by' ∧ by' ≤ 9223372036854775807) :
    Calls Tryd.prog 5 #[.slice A0 L0.length c0, .int .i64 by'] w (RetB (.bool true) w) := by
  have HB := Lib.hid hB
  clear hB
  by_cases hlight : (L0.length : Int) ≤ 500
  · have hL := light_any A0 L0.length c0 w
    rw [decide_eq_true hlight] at hL
    have HLt := Lib.hid hL
    clear hL hlight
    go_enter Tryd.func5, Tryd.ntmps5
    go_wp2_with fail
    refine ret_pure HLt.out ?_
    clear HLt
    go_wp2_with fail
    refine (roll_any A0 L0 c0 _ hl0 hI0).mono ?_
    rintro e w1 ⟨D, rfl, hDs, hD, hb1⟩
    have hE1 : Env w w1 D L0 := ⟨hD, hDs, hb1⟩
    clear hI0 hD hb1
    go_wp2_with fail
    refine (safe_any D L0 w1 hE1.dice).mono ?_
    rintro e w2 ⟨p, R1, rfl, hpr, hp1, hp2, hD2, hg2⟩
    have hE2 := hE1.next hD2 hg2
    have HPR := Lib.hid hpr
    clear hD2 hg2 hE1 hpr
    go_wp2_with fail
    refine (pplan_any D p R1 w2 hE2.dice (by omega)).mono ?_
    rintro e w3 ⟨pn, ph, R2, rfl, hn1, hn2, hn3, hD3, hg3⟩
    have hE3 := hE2.next hD3 hg3
    clear hD3 hg3 hE2
    go_wp2_with fail
    refine gen_calls fun w4 hw4 => ?_
    have hpc : PlanCell w4 w3.heap.size p pn ph := by rw [hw4]; exact PlanCell.new _ _ _ rfl
    have hE4 : Env w w4 D R2 := hE3.mv (by rw [hw4]; exact below_alloc _ _)
    have hxD : ¬ w3.heap.size = D := by have := hE3.lt; omega
    generalize w3.heap.size = px at *
    clear hw4 hE3
    refine (next_any D R2 ph w4 hE4.dice (by omega)).mono ?_
    rintro e w5 ⟨rfl, hD5, hg5⟩
    obtain ⟨m1, m2⟩ := nextV_range R2 ph (by omega)
    generalize nextV R2 ph = h0 at *
    have hE5 := hE4.next hD5 hg5
    have HPL := Lib.hid (show PlanCell w5 px p pn ph from (hg5.block px (blk_lt hpc) (fun e => by injection e with e; omega)).trans hpc)
    have hpD : ¬ (px = D) := hxD
    have hDW : D < w5.heap.size := hE5.lt
    have HE5 := Lib.hid hE5
    clear hpc hE4 hD5 hg5 hE5
    go_wp2_with fail
    have hh1 : 1 ≤ 1 + h0 := by omega
    have hh2 : 1 + h0 ≤ (ph : Int) := by omega
    generalize 1 + h0 = hh at *
    clear m1 m2
    refine wp_region_J2 (GI (allPL D p pn ph hh) (TrG w5 D 1 (fun _ => 5) (fun _ => 6) (fun _ => 7) (fun _ G => ∃ n, n ≤ 3 ∧ GiftM p hh n G))) (by kernel_rfl) (by kernel_rfl) (by kernel_rfl) ?_ ?_ ?_
    case refine_1 => exact fun V => GI.start (TrG.start ⟨_, HE5.out.dice⟩ V)
    case refine_2 =>
      refine JSteps.cons (fun V Ld a W hLi hpre hR hI K hK => ?_) ?_
      · have o5 := (hR.old 5 (by kernel_rfl)).trans (show _ = Value.pointer (some ⟨D, 0, none⟩) from rfl)
        exact G_move rfl (.tmp 5) rfl o5 (hK _ _ (hI.put0 0 rfl rfl (hI.st.set _ (by decide))))
      refine JSteps.cons (fun V Ld a W hLi hpre hR hI K hK => ?_) ?_
      · have o6 := (hR.old 6 (by kernel_rfl)).trans (show _ = Value.pointer (some ⟨px, 0, none⟩) from rfl)
        exact J_load rfl _ (.tmp 6) rfl (by rw [o6]; exact ld_plan ((hI.st.sv.block px (blk_lt HPL.out) hpD).trans HPL.out)) (hK _ _ (hI.put0 1 rfl rfl (hI.st.set _ (by decide))))
      refine JSteps.cons (fun V Ld a W hLi hpre hR hI K hK => ?_) ?_
      · have o7 := (hR.old 7 (by kernel_rfl)).trans (show _ = Value.int .i64 hh from rfl)
        exact G_move rfl (.tmp 7) rfl o7 (hK _ _ (hI.put0 2 rfl rfl (hI.st.set _ (by decide))))
      refine JSteps.cons (fun V Ld a W hLi hpre hR hI K hK => ?_) ?_
      · have o5 := (hR.old 5 (by kernel_rfl)).trans (show _ = Value.pointer (some ⟨D, 0, none⟩) from rfl)
        exact G_move rfl (.tmp 5) rfl o5 (hK _ _ (hI.put0 3 rfl rfl (hI.st.set _ (by decide))))
      refine JSteps.cons (fun V Ld a W hLi hpre hR hI K hK => ?_) ?_
      · obtain ⟨R, hd⟩ := hI.st.dice
        have p3 : Ld 3 = true := hpre 3 (List.mem_of_elem_eq_true (by kernel_rfl))
        have f3 := (hR.ev 3 rfl rfl p3).trans (hI.val 3 _ rfl p3)
        refine J_call rfl _ _ _ rfl enter_next (by simp only [List.map_toArray, List.map_cons, List.map_nil, f3]; rfl) (next_any D R 4 W hd (by omega)) ?_
        rintro e w' ⟨rfl, hd', hg⟩
        exact ⟨_, rfl, hK _ _ (hI.put trivial 4 rfl (nat_next R 4 (by omega)) (hI.st.mv hDW 4 (by decide) (grown_save hg (fun x e => by injection e with e; exact e.symm)) ⟨_, hd'⟩))⟩
      refine JSteps.cons (fun V Ld a W hLi hpre hR hI K hK => ?_) ?_
      · obtain ⟨R, hd⟩ := hI.st.dice
        have p0 : Ld 0 = true := hpre 0 (List.mem_of_elem_eq_true (by kernel_rfl))
        have f0 := (hR.ev 0 rfl rfl p0).trans (hI.val 0 _ rfl p0)
        have p1 : Ld 1 = true := hpre 1 (List.mem_of_elem_eq_true (by kernel_rfl))
        have f1 := (hR.ev 1 rfl rfl p1).trans (hI.val 1 _ rfl p1)
        have p2 : Ld 2 = true := hpre 2 (List.mem_of_elem_eq_true (by kernel_rfl))
        have f2 := (hR.ev 2 rfl rfl p2).trans (hI.val 2 _ rfl p2)
        have p4 : Ld 4 = true := hpre 4 (List.mem_of_elem_eq_true (by kernel_rfl))
        obtain ⟨n, en, ln⟩ := hI.val 4 _ rfl p4
        have f4 := (hR.ev 4 rfl rfl p4).trans en
        refine J_call rfl _ _ _ rfl enter_gift (by simp only [List.map_toArray, List.map_cons, List.map_nil, f0, f1, f2, f4]) (gift_any D R p pn ph hh n W hd (by omega) (by omega) (by omega)) ?_
        rintro e w' ⟨v, G, R', rfl, hGR, hM, hd', hg⟩
        exact ⟨_, rfl, hK _ _ (hI.put trivial 5 rfl trivial (hI.st.oG allIx hDW 0 (by decide) hLi hGR ⟨n, by omega, hM⟩ hd' hg))⟩
      refine JSteps.cons (fun V Ld a W hLi hpre hR hI K hK => ?_) ?_
      · exact J_alloc rfl _ rfl (al_gift W) (hK _ _ (hI.put trivial 6 rfl trivial (hI.st.oA allIx 0 (by decide) hLi)))
      refine JSteps.cons (fun V Ld a W hLi hpre hR hI K hK => ?_) trivial
      · have p6 : Ld 6 = true := hpre 6 (List.mem_of_elem_eq_true (by kernel_rfl))
        have p5 : Ld 5 = true := hpre 5 (List.mem_of_elem_eq_true (by kernel_rfl))
        obtain ⟨w', hs, hI'⟩ := hI.st.oS allIx hDW 0 (by decide) p5 p6
        exact J_store rfl _ (.tmp 8) (.tmp 43) rfl (by rw [hR.ev 6 rfl rfl p6, hR.ev 5 rfl rfl p5]; exact hs) (hK _ _ (hI.put trivial 7 rfl trivial hI'))
    case refine_3 =>
      intro V Ld w6 hLd hI
      obtain ⟨g, G0, A0', ca0, B0', cb0, C0', cc0, e6, lg, ⟨n, hn, hM0⟩, K0, R0⟩ := hI.st.fin 0 (by decide) (hLd 7 (by decide))
      obtain ⟨A, ca, B, cb, C, cc, S, T, m, K1, M1, R1'⟩ := GftAt.open_ (X := fun _ => False) ⟨G0, A0', ca0, B0', cb0, C0', cc0, hM0, K0, R0.mono (fun b _ hb => ⟨hb, id⟩)⟩
      have HB6 := Lib.hid (HE5.out.below.trans (hI.st.sv.below w.heap.size HE5.out.below.size (fun k _ e => by have e' : k = D := e; omega)))
      replace HPL := Lib.hid (show PlanCell w6 px p pn ph from (hI.st.sv.block px (blk_lt HPL.out) hpD).trans HPL.out)
      have HK := Lib.hid K1
      have HR := Lib.hid (R1'.mono (Q := fun _ => True) (fun _ _ _ => trivial))
      have HM := Lib.hid M1
      have HSM := Lib.hid (gm_small M1 (by omega))
      have HTN := Lib.hid (gm_tiny M1 (by omega))
      clear hI hLd K0 R0 hM0 K1 R1' M1
      simp only [finL, putL, Act.put, Nat.reduceAdd]
      rw [e6]
      clear e6
      generalize V 0 = q0
      generalize V 1 = q1
      generalize V 2 = q2
      generalize V 3 = q3
      generalize V 4 = q4
      generalize V 5 = q5
      clear V
      simp only [List.setIfInBounds_toArray, List.set_cons_succ, List.set_cons_zero]
      have HCH := Lib.hid (fun (k : Int) (hk : inI k 0 5 = true) => chk_fine (k := k) HPR.out hp2 hp1 hn1 hn2 hn3 hh1 hh2 hk)
      have HS2 := Lib.hid (sp_l2 (p := p) (lb := by') (G := ⟨hh, S, T, hh, [m]⟩) (O := ⟨hh, S, T, hh, [m]⟩) (X := ⟨hh, S, T, hh, [m]⟩) HCH.out rfl)
      have HS1 := Lib.hid (sp_l1 (p := p) (lb := by') (G := ⟨hh, S, T, hh, [m]⟩) (O := ⟨hh, S, T, hh, [m]⟩) (X := ⟨hh, S, T, hh, [m]⟩) HCH.out rfl)
      have HS0 := Lib.hid (sp_l0 (p := p) (lb := by') (G := ⟨hh, S, T, hh, [m]⟩) (O := ⟨hh, S, T, hh, [m]⟩) (X := ⟨hh, S, T, hh, [m]⟩) HCH.out rfl)
      clear HE5 HCH
      have HBS := Lib.hid (HB.out.below HB6.out HB.out.1)
      have x0 := HK.out.c0
      have x1 := HK.out.c1
      have x2 := HK.out.c2
      have x3 := HK.out.c3
      have x4 := HK.out.c4
      have lx := HK.out.lt
      have p0' := HPL.out.c0
      have p1' := HPL.out.c1
      have p2' := HPL.out.c2
      have lp := HPL.out.lt
      go_wp2_with fail
      refine (spoil_any p pn ph hh 2 by' _ _ _ ⟨hh, S, T, hh, [m]⟩ ⟨hh, S, T, hh, [m]⟩ ⟨hh, S, T, hh, [m]⟩ w6 HBS.out (by omega) (by omega) HR.out HR.out HR.out HSM.out HSM.out HSM.out).mono ?_
      rintro e w7 ⟨v, rfl, hG', hb⟩
      obtain ⟨f1, f2, f3⟩ := HS2.out
      rw [f3] at hG'
      rw [f1, f2]
      obtain ⟨A2, a2, B2, b2, C2, c2, rfl, q1, q2, q3⟩ := hG'.open_ (n := n) (m := n) (l := 1) (by simp; exact HM.out.bl) (by simp; exact HM.out.wl) (by simp [shS, shvL])
      have HQ2 := Lib.hid (show GiftR (fun _ => True) w7 (giftV hh (.slice A2 n a2) (.slice B2 n b2) hh (.slice C2 1 c2)) (mapG (shS p (moreI p by')) ⟨hh, S, T, hh, [m]⟩) from by
        obtain ⟨A', ca', B', cb', C', cc', e, r1, r2, r3⟩ := hG'
        exact ⟨A', ca', B', cb', C', cc', e, r1.any, r2.any, r3.mono (fun _ _ _ => trivial)⟩)
      clear f1 f2 f3 hG' q1 q2 q3
      clear x0 x1 x2 x3 x4 lx p0' p1' p2' lp
      replace HK := Lib.hid (HK.out.below hb)
      replace HR := Lib.hid (HR.out.below hb)
      replace HPL := Lib.hid (HPL.out.below hb)
      replace HB6 := Lib.hid (below_trans HB6.out hb)
      replace HBS := Lib.hid (HB.out.below HB6.out HB.out.1)
      clear hb
      have x0 := HK.out.c0
      have x1 := HK.out.c1
      have x2 := HK.out.c2
      have x3 := HK.out.c3
      have x4 := HK.out.c4
      have lx := HK.out.lt
      have p0' := HPL.out.c0
      have p1' := HPL.out.c1
      have p2' := HPL.out.c2
      have lp := HPL.out.lt
      go_wp2_with fail
      refine gen_calls fun w8 hw8 => ?_
      have hb : Below w7.heap.size w7 w8 := by rw [hw8]; exact below_alloc _ _
      have HKa := Lib.hid (show GiftCell w8 w7.heap.size hh (.slice A2 n a2) (.slice B2 n b2) hh (.slice C2 1 c2) from by rw [hw8]; exact GiftCell.new _ _ _ _ _ rfl)
      clear hw8
      clear x0 x1 x2 x3 x4 lx p0' p1' p2' lp
      replace HK := Lib.hid (HK.out.below hb)
      replace HR := Lib.hid (HR.out.below hb)
      replace HPL := Lib.hid (HPL.out.below hb)
      replace HQ2 := Lib.hid (HQ2.out.below hb)
      replace HB6 := Lib.hid (below_trans HB6.out hb)
      replace HBS := Lib.hid (HB.out.below HB6.out HB.out.1)
      clear hb
      generalize w7.heap.size = xa at *
      have x0 := HK.out.c0
      have x1 := HK.out.c1
      have x2 := HK.out.c2
      have x3 := HK.out.c3
      have x4 := HK.out.c4
      have lx := HK.out.lt
      have p0' := HPL.out.c0
      have p1' := HPL.out.c1
      have p2' := HPL.out.c2
      have lp := HPL.out.lt
      refine (spoil_any p pn ph hh 1 by' _ _ _ ⟨hh, S, T, hh, [m]⟩ ⟨hh, S, T, hh, [m]⟩ ⟨hh, S, T, hh, [m]⟩ w8 HBS.out (by omega) (by omega) HR.out HR.out HR.out HSM.out HSM.out HSM.out).mono ?_
      rintro e w9 ⟨v, rfl, hG', hb⟩
      obtain ⟨f1, f2, f3⟩ := HS1.out
      rw [f3] at hG'
      rw [f1, f2]
      obtain ⟨A1, a1, B1, b1, C1, c1, rfl, q1, q2, q3⟩ := hG'.open_ (n := n) (m := n) (l := 1) (by rw [valB_len]; exact HM.out.bl) HM.out.wl rfl
      have HQ1 := Lib.hid (show GiftR (fun _ => True) w9 (giftV hh (.slice A1 n a1) (.slice B1 n b1) hh (.slice C1 1 c1)) (valG p by' ⟨hh, S, T, hh, [m]⟩) from by
        obtain ⟨A', ca', B', cb', C', cc', e, r1, r2, r3⟩ := hG'
        exact ⟨A', ca', B', cb', C', cc', e, r1.any, r2.any, r3.mono (fun _ _ _ => trivial)⟩)
      clear f1 f2 f3 hG' q1 q2 q3
      clear x0 x1 x2 x3 x4 lx p0' p1' p2' lp
      replace HK := Lib.hid (HK.out.below hb)
      replace HR := Lib.hid (HR.out.below hb)
      replace HPL := Lib.hid (HPL.out.below hb)
      replace HQ2 := Lib.hid (HQ2.out.below hb)
      replace HKa := Lib.hid (HKa.out.below hb)
      replace HB6 := Lib.hid (below_trans HB6.out hb)
      replace HBS := Lib.hid (HB.out.below HB6.out HB.out.1)
      clear hb
      have x0 := HK.out.c0
      have x1 := HK.out.c1
      have x2 := HK.out.c2
      have x3 := HK.out.c3
      have x4 := HK.out.c4
      have lx := HK.out.lt
      have p0' := HPL.out.c0
      have p1' := HPL.out.c1
      have p2' := HPL.out.c2
      have lp := HPL.out.lt
      go_wp2_with fail
      refine gen_calls fun w10 hw10 => ?_
      have hb : Below w9.heap.size w9 w10 := by rw [hw10]; exact below_alloc _ _
      have HKb := Lib.hid (show GiftCell w10 w9.heap.size hh (.slice A1 n a1) (.slice B1 n b1) hh (.slice C1 1 c1) from by rw [hw10]; exact GiftCell.new _ _ _ _ _ rfl)
      clear hw10
      clear x0 x1 x2 x3 x4 lx p0' p1' p2' lp
      replace HK := Lib.hid (HK.out.below hb)
      replace HR := Lib.hid (HR.out.below hb)
      replace HPL := Lib.hid (HPL.out.below hb)
      replace HQ2 := Lib.hid (HQ2.out.below hb)
      replace HKa := Lib.hid (HKa.out.below hb)
      replace HQ1 := Lib.hid (HQ1.out.below hb)
      replace HB6 := Lib.hid (below_trans HB6.out hb)
      replace HBS := Lib.hid (HB.out.below HB6.out HB.out.1)
      clear hb
      generalize w9.heap.size = xb at *
      have x0 := HK.out.c0
      have x1 := HK.out.c1
      have x2 := HK.out.c2
      have x3 := HK.out.c3
      have x4 := HK.out.c4
      have lx := HK.out.lt
      have p0' := HPL.out.c0
      have p1' := HPL.out.c1
      have p2' := HPL.out.c2
      have lp := HPL.out.lt
      refine (spoil_any p pn ph hh 0 by' _ _ _ ⟨hh, S, T, hh, [m]⟩ ⟨hh, S, T, hh, [m]⟩ ⟨hh, S, T, hh, [m]⟩ w10 HBS.out (by omega) (by omega) HR.out HR.out HR.out HSM.out HSM.out HSM.out).mono ?_
      rintro e w11 ⟨v, rfl, hG', hb⟩
      obtain ⟨f1, f2, f3⟩ := HS0.out
      rw [f3] at hG'
      rw [f1, f2]
      obtain ⟨A3, a3, B3, b3, C3, c3, rfl, q1, q2, q3⟩ := hG'.open_ (n := n) (m := n) (l := 1) HM.out.bl HM.out.wl rfl
      have HQ3 := Lib.hid (show GiftR (fun _ => True) w11 (giftV hh (.slice A3 n a3) (.slice B3 n b3) hh (.slice C3 1 c3)) ⟨hh, S, T, hh, [m]⟩ from by
        obtain ⟨A', ca', B', cb', C', cc', e, r1, r2, r3⟩ := hG'
        exact ⟨A', ca', B', cb', C', cc', e, r1.any, r2.any, r3.mono (fun _ _ _ => trivial)⟩)
      clear f1 f2 f3 hG' q1 q2 q3
      clear x0 x1 x2 x3 x4 lx p0' p1' p2' lp
      replace HK := Lib.hid (HK.out.below hb)
      replace HR := Lib.hid (HR.out.below hb)
      replace HPL := Lib.hid (HPL.out.below hb)
      replace HQ2 := Lib.hid (HQ2.out.below hb)
      replace HKa := Lib.hid (HKa.out.below hb)
      replace HQ1 := Lib.hid (HQ1.out.below hb)
      replace HKb := Lib.hid (HKb.out.below hb)
      replace HB6 := Lib.hid (below_trans HB6.out hb)
      replace HBS := Lib.hid (HB.out.below HB6.out HB.out.1)
      clear hb
      have x0 := HK.out.c0
      have x1 := HK.out.c1
      have x2 := HK.out.c2
      have x3 := HK.out.c3
      have x4 := HK.out.c4
      have lx := HK.out.lt
      have p0' := HPL.out.c0
      have p1' := HPL.out.c1
      have p2' := HPL.out.c2
      have lp := HPL.out.lt
      go_upto_region 10 with fail
      refine gen_world fun w12 hw12 => ?_
      have hb : Below w11.heap.size w11 w12 := by rw [hw12]; exact below_alloc _ _
      have HKc := Lib.hid (show GiftCell w12 w11.heap.size hh (.slice A3 n a3) (.slice B3 n b3) hh (.slice C3 1 c3) from by rw [hw12]; exact GiftCell.new _ _ _ _ _ rfl)
      clear hw12
      clear x0 x1 x2 x3 x4 lx p0' p1' p2' lp
      replace HK := Lib.hid (HK.out.below hb)
      replace HR := Lib.hid (HR.out.below hb)
      replace HPL := Lib.hid (HPL.out.below hb)
      replace HQ2 := Lib.hid (HQ2.out.below hb)
      replace HKa := Lib.hid (HKa.out.below hb)
      replace HQ1 := Lib.hid (HQ1.out.below hb)
      replace HKb := Lib.hid (HKb.out.below hb)
      replace HQ3 := Lib.hid (HQ3.out.below hb)
      replace HB6 := Lib.hid (below_trans HB6.out hb)
      replace HBS := Lib.hid (HB.out.below HB6.out HB.out.1)
      clear hb
      generalize w11.heap.size = xc at *
      have x0 := HK.out.c0
      have x1 := HK.out.c1
      have x2 := HK.out.c2
      have x3 := HK.out.c3
      have x4 := HK.out.c4
      have lx := HK.out.lt
      have p0' := HPL.out.c0
      have p1' := HPL.out.c1
      have p2' := HPL.out.c2
      have lp := HPL.out.lt
      have z0 := HKc.out.c0
      have z1 := HKc.out.c1
      have z2 := HKc.out.c2
      have z3 := HKc.out.c3
      have z4 := HKc.out.c4
      have lz := HKc.out.lt
      go_wp2_with fail
      have hsg := refSame_gift _ _ ⟨hh, S, T, hh, [m]⟩ ⟨hh, S, T, hh, [m]⟩ w12 HQ3.out HR.out HSM.out
      rw [eqG_refl] at hsg
      refine ret_below hsg fun w13 hb => ?_
      clear hsg z0 z1 z2 z3 z4 lz HKc HQ3 HS0 HS1 HS2
      clear x0 x1 x2 x3 x4 lx p0' p1' p2' lp
      replace HK := Lib.hid (HK.out.below hb)
      replace HR := Lib.hid (HR.out.below hb)
      replace HPL := Lib.hid (HPL.out.below hb)
      replace HQ2 := Lib.hid (HQ2.out.below hb)
      replace HKa := Lib.hid (HKa.out.below hb)
      replace HQ1 := Lib.hid (HQ1.out.below hb)
      replace HKb := Lib.hid (HKb.out.below hb)
      replace HB6 := Lib.hid (below_trans HB6.out hb)
      replace HBS := Lib.hid (HB.out.below HB6.out HB.out.1)
      clear hb
      have x0 := HK.out.c0
      have x1 := HK.out.c1
      have x2 := HK.out.c2
      have x3 := HK.out.c3
      have x4 := HK.out.c4
      have lx := HK.out.lt
      have p0' := HPL.out.c0
      have p1' := HPL.out.c1
      have p2' := HPL.out.c2
      have lp := HPL.out.lt
      have y0 := HKa.out.c0
      have y1 := HKa.out.c1
      have y2 := HKa.out.c2
      have y3 := HKa.out.c3
      have y4 := HKa.out.c4
      have ly := HKa.out.lt
      go_wp2_with fail
      have hca := count_any p _ _ (mapG (shS p (moreI p by')) ⟨hh, S, T, hh, [m]⟩) ⟨hh, S, T, hh, [m]⟩ w13 HQ2.out HR.out (tiny_map HTN.out) HTN.out (form_all (by omega)) (by omega)
      have ea := count_all (b := by') HM.out (show 2 ≤ p by omega)
      unfold ctV at hca
      rw [ea] at hca
      generalize allC (allS (mapG (shS p (moreI p by')) ⟨hh, S, T, hh, [m]⟩)) (allS (mapG (shS p (moreI p by')) ⟨hh, S, T, hh, [m]⟩)).length = k1 at *
      clear ea
      refine ret_below hca fun w14 hb => ?_
      clear hca x0 x1 x2 x3 x4 lx p0' p1' p2' lp y0 y1 y2 y3 y4 ly
      replace HK := Lib.hid (HK.out.below hb)
      replace HR := Lib.hid (HR.out.below hb)
      replace HPL := Lib.hid (HPL.out.below hb)
      replace HQ2 := Lib.hid (HQ2.out.below hb)
      replace HKa := Lib.hid (HKa.out.below hb)
      replace HQ1 := Lib.hid (HQ1.out.below hb)
      replace HKb := Lib.hid (HKb.out.below hb)
      replace HB6 := Lib.hid (below_trans HB6.out hb)
      replace HBS := Lib.hid (HB.out.below HB6.out HB.out.1)
      clear hb
      have x0 := HK.out.c0
      have x1 := HK.out.c1
      have x2 := HK.out.c2
      have x3 := HK.out.c3
      have x4 := HK.out.c4
      have lx := HK.out.lt
      have p0' := HPL.out.c0
      have p1' := HPL.out.c1
      have p2' := HPL.out.c2
      have lp := HPL.out.lt
      have y0 := HKb.out.c0
      have y1 := HKb.out.c1
      have y2 := HKb.out.c2
      have y3 := HKb.out.c3
      have y4 := HKb.out.c4
      have ly := HKb.out.lt
      go_wp2_with fail
      have hcb := count_any p _ _ (valG p by' ⟨hh, S, T, hh, [m]⟩) ⟨hh, S, T, hh, [m]⟩ w14 HQ1.out HR.out (tiny_val HTN.out) HTN.out (form_val HM.out (by omega)) (by omega)
      have eb := count_val (b := by') HM.out (show 2 ≤ p by omega)
      unfold ctV at hcb
      rw [eb] at hcb
      generalize allC (allS (valG p by' ⟨hh, S, T, hh, [m]⟩)) (allS (valG p by' ⟨hh, S, T, hh, [m]⟩)).length = k2 at *
      clear eb
      by_cases h0 : 0 < n
      · rw [if_pos h0] at hcb
        refine ret_below hcb fun w15 hb => ?_
        clear hcb x0 x1 x2 x3 x4 lx p0' p1' p2' lp y0 y1 y2 y3 y4 ly
        replace HK := Lib.hid (HK.out.below hb)
        replace HR := Lib.hid (HR.out.below hb)
        replace HPL := Lib.hid (HPL.out.below hb)
        replace HQ2 := Lib.hid (HQ2.out.below hb)
        replace HKa := Lib.hid (HKa.out.below hb)
        replace HQ1 := Lib.hid (HQ1.out.below hb)
        replace HKb := Lib.hid (HKb.out.below hb)
        replace HB6 := Lib.hid (below_trans HB6.out hb)
        replace HBS := Lib.hid (HB.out.below HB6.out HB.out.1)
        clear hb
        have x1 := HK.out.c1
        have lx := HK.out.lt
        have h0' : (0 : Int) < (n : Int) := by omega
        go_wp2_with fail
        refine ret_below (awake42 _ HBS.out) fun w16 hb => ?_
        go_wp2_with fail
        go_ret
        exact RetB.bool (by simp) (below_trans HB6.out hb)
      · rw [if_neg h0] at hcb
        refine ret_below hcb fun w15 hb => ?_
        clear hcb x0 x1 x2 x3 x4 lx p0' p1' p2' lp y0 y1 y2 y3 y4 ly
        replace HK := Lib.hid (HK.out.below hb)
        replace HR := Lib.hid (HR.out.below hb)
        replace HPL := Lib.hid (HPL.out.below hb)
        replace HQ2 := Lib.hid (HQ2.out.below hb)
        replace HKa := Lib.hid (HKa.out.below hb)
        replace HQ1 := Lib.hid (HQ1.out.below hb)
        replace HKb := Lib.hid (HKb.out.below hb)
        replace HB6 := Lib.hid (below_trans HB6.out hb)
        replace HBS := Lib.hid (HB.out.below HB6.out HB.out.1)
        clear hb
        have x1 := HK.out.c1
        have lx := HK.out.lt
        have h0' : ¬ (0 : Int) < (n : Int) := by omega
        go_wp2_with fail
        refine ret_below (awake42 _ HBS.out) fun w16 hb => ?_
        go_wp2_with fail
        go_ret
        exact RetB.bool (by simp) (below_trans HB6.out hb)
  · have hL := light_any A0 L0.length c0 w
    rw [decide_eq_false hlight] at hL
    have HLt := Lib.hid hL
    clear hL
    go_enter Tryd.func5, Tryd.ntmps5
    go_wp2_with fail
    refine ret_pure HLt.out ?_
    go_wp2_with fail
    refine ret_below (awake42 _ HB.out) ?_
    intro w1 hb1
    go_wp2_with fail
    go_ret
    exact RetB.bool rfl hb1
end Go.Proofs.YtjckpammcgeloaaDoor
namespace Go.Proofs.YtjckpammcgeloaaDoor
open Go.RowKit

theorem cell_block_lt {w : World} {a : Addr} {v : Value} (h : w.cell? a = some v) : a.block < w.heap.size := by
  rcases Nat.lt_or_ge a.block w.heap.size with hlt | hge
  · exact hlt
  · unfold World.cell? at h; simp [Array.getElem?_eq_none hge] at h
theorem open_row {W : World} {x : Addr} {len cap : Nat} {zs : List Int} (hl : len ≤ cap) (hm : cap ≤ maxLen) (hz : zs.length = cap) (hcell : ∀ i, i < zs.length → W.cell? (x.add i) = some (.int .i64 (zs.getD i 0)))
    (hb : ∀ n ∈ zs, -9223372036854775808 ≤ n ∧ n ≤ 9223372036854775807) :
    ∃ ys : List Int, ys.length = len ∧ ys.length ≤ maxLen ∧ IntsAt W (some x) ys ∧ ∀ n ∈ ys, -9223372036854775808 ≤ n ∧ n ≤ 9223372036854775807 := by
  refine ⟨zs.take len, by simp; omega, by simp; omega, fun k hk => ?_, fun n hn => hb n (List.mem_of_mem_take hn)⟩
  have hk' : k < len := by simpa using Nat.lt_of_lt_of_le hk (List.length_take_le _ _)
  have h0 := hcell 0 (by omega)
  have hk0 := hcell k (by omega)
  obtain ⟨b, off, spot⟩ := x
  have hs : spot = none := by simpa [Addr.add] using World.cell?_spot h0
  subst hs
  have hlt := cell_block_lt hk0
  refine ⟨b, off, rfl, ?_, ?_⟩
  · unfold Addr.add at hlt; split at hlt <;> exact hlt
  · have e : (⟨b, off, none⟩ : Addr).add k = ⟨b, off + k, none⟩ := by
      unfold Addr.add; split
      · rename_i h; subst h; rfl
      · rfl
    rw [← e, hk0, nth_eq hk]
    simp [List.getD_eq_getElem?_getD, show k < zs.length by omega]
end Go.Proofs.YtjckpammcgeloaaDoor
