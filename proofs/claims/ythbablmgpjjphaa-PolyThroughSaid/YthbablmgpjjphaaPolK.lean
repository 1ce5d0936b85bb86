/-
  Polynomials: the one through points, by the document.
-/
import Derived.Test.YthbablmgpjjphaaPolJ
namespace Go.Proofs.Ythbablmgpjjphaa
open Go.RowKit

theorem addmul_wrap {p a b d : Nat} (ha : a < p) (hb : b < p) (hd : d < p) (hp2 : p ≤ 2147483648) : IntKind.i64.wrap ((d : Int) + (a : Int) * (b : Int)) = (d : Int) + (a : Int) * (b : Int) := by
  have h := mulN_bound ha hb hp2
  have q1 : (a : Int) * (b : Int) = (a * b : Nat) := by push_cast; rfl
  exact IntWalk.i64_in _ (by omega)
theorem addmul_tmod {p a b d : Nat} : ((d : Int) + (a : Int) * (b : Int)).tmod (p : Int) = (fadd p d (fmul p a b) : Nat) := by
  rw [← Int.natCast_mul, ← Int.natCast_add, Int.tmod_eq_emod_of_nonneg (by omega), ← mul_ref]; rfl
theorem NatsAt.setCell {w : World} {A : Option Addr} {L : List Nat} (h : NatsAt w A L) (q : Addr) (v : Value) (hne : ∀ b off, A = some ⟨b, off, none⟩ → b ≠ q.block) : NatsAt (w.setCell q v) A L := fun k hk => by
  obtain ⟨b, off, hA, hb, hc⟩ := h k hk
  exact ⟨b, off, hA, by simpa [World.setCell] using hb, (World.cell?_of_block (w := w) (Below.heap_setCell w q v b (hne b off hA))).trans hc⟩
theorem NatsAt.undrew {w : World} {A : Option Addr} {L : List Nat} (h : NatsAt w A L) : NatsAt w.drew A L := h
/-- The document's sum while term i is being added. -/
def MidR (p : Nat) (xs ys : List Nat) (i k : Nat) (ds : List Nat) : Prop := ds.length = xs.length ∧ ∀ m, m < xs.length → nthN ds m = nthN (rfN p xs ys (if m < k then i + 1 else i)) m
theorem MidR.start {p : Nat} {xs ys : List Nat} {i : Nat} : MidR p xs ys i 0 (rfN p xs ys i) := ⟨rfN_len p xs ys i, fun m hm => by rw [if_neg (by omega)]⟩
theorem MidR.step {p : Nat} {xs ys ds : List Nat} {i k v y : Nat} (h : MidR p xs ys i k ds) (hv : v = invV p (topN p i (nthN xs i) xs xs.length)) (hy : y = nthN ys i) :
    MidR p xs ys i (k + 1) (ds.set k (fadd p (nthN ds k) (fmul p (fmul p (nthN (oneN p i xs xs.length) k) v) y))) := by
  refine ⟨by rw [List.length_set]; exact h.1, fun m hm => ?_⟩
  by_cases hmk : k = m
  · subst hmk
    rw [nthN_set_same _ _ _ (by rw [h.1]; exact hm), if_pos (by omega), rfN_nth p xs ys i k hm, h.2 k hm, if_neg (by omega), hv, hy]
  · rw [nthN_set_other _ _ _ _ hmk, h.2 m hm]
    by_cases h2 : m < k
    · rw [if_pos h2, if_pos (by omega)]
    · rw [if_neg h2, if_neg (by omega)]
theorem MidR.done {p : Nat} (hp : 1 ≤ p) {xs ys ds : List Nat} {i : Nat} (h : MidR p xs ys i (oneN p i xs xs.length).length ds) : ds = rfN p xs ys (i + 1) :=
  extN (by rw [h.1, rfN_len]) fun m hm => by
    rw [h.1] at hm
    rw [h.2 m hm]; split
    · rfl
    · rw [rfN_nth p xs ys i m hm, nthN_ge (L := oneN p i xs xs.length) (by omega)]
      have := nthN_lt hp (rfN_lt hp xs ys i) m
      simp [fadd, fmul, Nat.mod_eq_of_lt this]
theorem MidR.lt {p : Nat} (hp : 1 ≤ p) {xs ys ds : List Nat} {i k : Nat} (h : MidR p xs ys i k ds) (m : Nat) (hm : m < xs.length) : nthN ds m < p := by
  rw [h.2 m hm]; exact nthN_lt hp (rfN_lt hp xs ys _) m
theorem oneN_skip {p i : Nat} {xs : List Nat} {k : Nat} (h : k = i) : oneN p i xs (k + 1) = oneN p i xs k := by simp only [oneN]; rw [if_pos h]
theorem oneN_go {p i : Nat} {xs : List Nat} {k : Nat} (h : ¬ k = i) : oneN p i xs (k + 1) = mulN p (oneN p i xs k) [fsub p 0 (nthN xs k), fone p] := by simp only [oneN]; rw [if_neg h]
theorem oneN_le {p i : Nat} {xs : List Nat} (k : Nat) : (oneN p i xs k).length ≤ k + 1 := by
  have := oneN_len p i xs k; split at this <;> omega
theorem oneN_all {p i : Nat} {xs : List Nat} (h : i < xs.length) : (oneN p i xs xs.length).length ≤ xs.length := by
  have := oneN_len p i xs xs.length; rw [if_pos h] at this; exact this
theorem refSub_zero (p x : Nat) (w : World) (hp : 1 ≤ p) (hp2 : p ≤ 2147483648) (hx : x < p) : Calls Try.prog 38 #[.int .i64 p, .int .i64 0, .int .i64 x] w (Ret (.int .i64 (fsub p 0 x : Nat)) w) :=
  refSub_nat p 0 x w hp hp2 (by omega) hx
theorem refSub_at (p a x : Nat) (n : Int) (w : World) (hn : n = (a : Int)) (hp : 1 ≤ p) (hp2 : p ≤ 2147483648) (ha : a < p) (hx : x < p) : Calls Try.prog 38 #[.int .i64 p, .int .i64 n, .int .i64 x] w (Ret (.int .i64 (fsub p a x : Nat)) w) := by
  subst hn; exact refSub_nat p a x w hp hp2 ha hx

set_option maxRecDepth 100000 in
set_option maxHeartbeats 4000000 in
theorem refThrough_any (p : Nat) (A B : Option Addr) (L Y : List Nat) (ca cb : Nat) (w : World) (hp : PrimeN p) (hp2 : p ≤ 2147483648) (hA : NatsAt w A L) (hSA : SlOK A ca L) (hB : NatsAt w B Y) (hL : ∀ y ∈ L, y < p) (hY : ∀ y ∈ Y, y < p)
    (hl : L.length ≤ 1048576) :
    Calls Try.prog 31 #[.int .i64 p, .slice A L.length ca, .slice B Y.length cb] w (ListErr (thR p L Y) (itE L Y) w) := by
  have hp2' := hp.1
  have hp1 : 1 ≤ p := by omega
  have t2 : ((p : Int) == 0) = false := by simp; omega
  have t3 : ¬ (p : Int) = 0 := by omega
  have t6 : ¬ p = 0 := by omega
  have hmx : Try.prog.follows .mixedOrders = true := by kernel_rfl
  by_cases hz : L.length = 0
  · have t1 : ((L.length : Int) == 0) = true := by simp [hz]
    have hE : itE L Y = 1 := by
      by_cases h : L.length = Y.length
      · rw [itE_len h, ckE_zero hz]
      · exact itE_no h
    have HR := Lib.hid (thR_no (p := p) (xs := L) (ys := Y) (by rw [hE]; omega))
    rw [hE]
    clear hz hE hA hSA hB hL hY
    go_enter Try.func31, Try.ntmps31
    go_wp2_with fail
    go_ret2
    rw [HR.out]
    exact ListErr.nil _ (Below.refl _ _)
  · have t1 : ((L.length : Int) == 0) = false := by simp; exact fun e => hz (by rw [e]; rfl)
    by_cases hlen : L.length = Y.length
    · have t4 : ((L.length : Int) != (Y.length : Int)) = false := by simp; omega
      have hpl := places_any A L ca w hA hSA
      rw [← ckE_pos hz] at hpl
      have hE := itE_len hlen
      have hle : L.length ≤ Y.length := by omega
      have hle2 : Y.length ≤ L.length := by omega
      by_cases h0 : ckE L = 0
      · have HTH := Lib.hid (th_ref hp hL (ckE_back h0).2 hY)
        have HR := Lib.hid (thR_ok (p := p) (hE.trans h0))
        rw [hE, h0]
        rw [h0] at hpl
        have HC := Lib.hid hpl
        have HA := Lib.hid hA
        have HB := Lib.hid hB
        have HL := Lib.hid (nthN_lt hp1 hL)
        have HY := Lib.hid (nthN_lt hp1 hY)
        have HP := Lib.hid hp
        have hof := fone_lt hp1
        have ho1 := one_tmod p hp1
        have ho2 : (1 : Int) % (p : Int) = (fone p : Nat) := rfl
        have HRL := Lib.hid (rfN_len p L Y)
        clear hlen hA hB hL hY hpl h0 hE hp hz hSA
        go_enter Try.func31, Try.ntmps31
        go_wp2_with fail
        refine ret_pure HC.out ?_
        go_wp2_with (at_make; refine make_nats rfl _ _ rfl L.length rfl rfl rfl (by omega) ?_; intro w1 hB1 hb1)
        go_loopw [40] (fun i wr => ∃ (k : Nat), k ≤ L.length ∧ i = .int .i64 k ∧ NatBlk wr w.heap.size (rfN p L Y k) ∧ Below w.heap.size w wr) (fun i _ => L.length - (intOf i).toNat)
        case atStart => exact ⟨0, Nat.zero_le _, rfl, hB1, hb1⟩
        case round =>
          obtain ⟨i, hi, rfl, hBi, hbr⟩ := hrel
          by_cases hlt : i < L.length
          · obtain ⟨bA, oA, rfl, hbA, hcA⟩ := (HA.out.below hbr) i hlt
            have hxi := HL.out i
            go_wp2_with fail
            have hgs := hBi.lt
            have hB2 : NatBlk (wr.alloc (.cells #[.int .i64 (fone p : Nat)] 3)) w.heap.size (rfN p L Y i) := hBi.below (below_alloc _ _)
            have hbr2 := below_trans hbr (below_alloc wr (.cells #[.int .i64 (fone p : Nat)] 3))
            have hO := (lit1_nats wr (fone p)).nats
            have hsz : w.heap.size < (wr.alloc (.cells #[.int .i64 (fone p : Nat)] 3)).heap.size := by simp; omega
            have hsz2 : wr.heap.size ≠ w.heap.size := by omega
            generalize hwo : wr.alloc (.cells #[.int .i64 (fone p : Nat)] 3) = wo at *
            clear hwo hcA hBi hbr hbA
            go_loopw [12, 13, 52] (fun o l j ws => ∃ (k l' c1 : Nat) (O : List Nat) (A1 : Option Addr), k ≤ L.length ∧ j = .int .i64 k ∧ l = .int .i64 l' ∧ l' < p ∧ l' = topN p i (nthN L i) L k ∧
              o = .slice A1 O.length c1 ∧ O = oneN p i L k ∧ NatsAt ws A1 O ∧ (∀ b off, A1 = some ⟨b, off, none⟩ → b ≠ w.heap.size) ∧ Below wo.heap.size wo ws) (fun _ _ j _ => L.length - (intOf j).toNat)
            case atStart => exact ⟨0, fone p, 1, [fone p], _, Nat.zero_le _, rfl, rfl, hof, rfl, rfl, rfl, hO, (fun b off e => by injection e with e; injection e with e1; omega), Below.refl _ _⟩
            case round =>
              obtain ⟨k, l, c1, O, A1, hk, rfl, rfl, hlp, hle', rfl, hOe, hON, hA1, hbo⟩ := hrel
              have hOl : O.length ≤ k + 1 := by rw [hOe]; exact oneN_le k
              have HOp : Hid (∀ c ∈ O, c < p) := by rw [hOe]; exact oneN_lt hp1 i L k
              have HLE := Lib.hid hle'
              have HOE := Lib.hid hOe
              have HON := Lib.hid hON
              have HA1 := Lib.hid hA1
              have hbw := below_trans hbr2 hbo
              clear hle' hOe hON hA1 hO
              by_cases hlt2 : k < L.length
              · obtain ⟨bA', oA', e', hbA2, hcA2⟩ := (HA.out.below hbw) k hlt2
                injection e' with e'; injection e' with e1 e2; subst e1; subst e2
                by_cases hki : k = i
                · have t5 : ((i : Int) != (k : Int)) = false := by simp; omega
                  have HKI := Lib.hid hki
                  clear hki
                  go_wp2_with fail
                  go_roundw
                  case rel => exact ⟨k + 1, l, c1, O, A1, by omega, by go_num, rfl, hlp, by rw [topN_skip HKI.out]; exact HLE.out, rfl, by rw [oneN_skip HKI.out]; exact HOE.out, HON.out, HA1.out, hbo⟩
                  case measure => simp [intOf]; omega
                · have t5 : ((i : Int) != (k : Int)) = true := by simp; omega
                  have HKI := Lib.hid hki
                  clear hki
                  have hy := HL.out k
                  have hs1 := fsub_lt hp1 0 (nthN L k)
                  have hs2 := fsub_lt hp1 (nthN L i) (nthN L k)
                  have m2 := mul_tmod (p := p) (a := l) (b := fsub p (nthN L i) (nthN L k))
                  have w2 := mul_wrap hlp hs2 hp2
                  go_wp2_with fail
                  go_region_held3 (fun _ => True) (trivial)
                    (first
                      | (go_at_call 38; refine ret_pure (refSub_at p _ (nthN L k) _ _ (by first | rfl | exact rfl) hp1 hp2 (by first | assumption | omega) hy) ?_)
                      | (go_at_call 22; refine (refMul_any p A1 _ O [fsub p 0 (nthN L k), fone p] c1 2 _ hp1 hp2 (by exact HON.out.alloc _) (by exact (lit2_nats _ _ _).nats) HOp.out (pair_lt hs1 hof) (by omega) (by simp)).mono ?_; intro e w6 hnl; obtain ⟨A6, c6, rfl, hN6, hS6, hBd6, hb6⟩ := hnl.open_))
                  have hb6' : Below wr.heap.size wr w6 := below_undrew1 (below_of_alloc (hb6.mono (by simp)) (Nat.le_refl _))
                  have hz5 := hbo.size
                  have HX := Lib.hid (And.intro hN6 (And.intro (fun b off e => (show b ≠ w.heap.size from by have := (hBd6 b off e).1; simp at this; omega)) (below_trans hbo hb6')))
                  clear hnl hN6 hBd6 hb6 hb6' hS6
                  go_wp2_with fail
                  go_roundw
                  case rel => exact ⟨k + 1, _, c6, _, A6, by omega, by go_num, rfl, fmul_lt hp1 _ _, by rw [topN_go HKI.out, HLE.out], rfl, by rw [oneN_go HKI.out, HOE.out], HX.out.1, HX.out.2.1, HX.out.2.2⟩
                  case measure => simp [intOf]; omega
              · obtain rfl : k = L.length := by omega
                have hiv := invV_lt hp1 l
                obtain ⟨bB, oB, rfl, hbB, hcB⟩ := (HB.out.below hbw) i (by omega)
                have hyi := HY.out i
                have HO2 := Lib.hid (And.intro HOE.out (And.intro (show invV p l = invV p (topN p i (nthN L i) L L.length) by rw [HLE.out]) (oneN_all (p := p) hlt)))
                have hOll : O.length ≤ L.length := by rw [HOE.out]; exact oneN_all hlt
                have hB3 : NatBlk wr w.heap.size (rfN p L Y i) := hB2.below hbo
                have hon := HON.out
                clear HLE HOE HON hbo hB2 hcB
                go_wp2_with fail
                refine ret_pure (refInverse_any p l _ HP.out hp2 hlp) ?_
                go_wp2_with fail
                obtain ⟨wp, rfl⟩ : ∃ wp : World, wp = wr := ⟨_, rfl⟩
                go_loopw [86] (fun j wt => ∃ (k : Nat) (ds : List Nat), k ≤ O.length ∧ j = .int .i64 k ∧ NatBlk wt w.heap.size ds ∧ MidR p L Y i k ds ∧ NatsAt wt A1 O ∧ Below w.heap.size w wt) (fun j _ => O.length - (intOf j).toNat)
                case atStart => exact ⟨0, _, Nat.zero_le _, rfl, hB3, MidR.start, hon, hbw⟩
                case round =>
                  obtain ⟨k, ds, hk2, rfl, hBk, hds, hNk, hbt⟩ := hrel
                  have HDS := Lib.hid hds
                  have HNK := Lib.hid hNk
                  clear hds hNk hon hB3
                  by_cases hlt3 : k < O.length
                  · obtain ⟨bO, oO, rfl, hbO, hcO⟩ := HNK.out k hlt3
                    have hneO := HA1.out bO oO rfl
                    obtain ⟨bB', oB', e', hbB2, hcB⟩ := (HB.out.below hbt) i (by omega)
                    injection e' with e'; injection e' with e1 e2; subst e1; subst e2
                    have hkL : k < L.length := by omega
                    have hcc := hBk.cell k (by rw [HDS.out.1]; exact hkL)
                    have hff := hBk.frozen k
                    have hd := HDS.out.lt hp1 k hkL
                    have hc := nthN_lt hp1 HOp.out k
                    have hf1 := fmul_lt hp1 (nthN O k) (invV p l)
                    have w1 := mul_wrap hc hiv hp2
                    have m1 := mul_tmod (p := p) (a := nthN O k) (b := invV p l)
                    have w2 := mul_wrap hf1 hyi hp2
                    have w3 := addmul_wrap hf1 hyi hd hp2
                    have m3 := addmul_tmod (p := p) (a := fmul p (nthN O k) (invV p l)) (b := nthN Y i) (d := nthN ds k)
                    have HS := Lib.hid (hBk.set_ k (fadd p (nthN ds k) (fmul p (fmul p (nthN O k) (invV p l)) (nthN Y i))))
                    have hst := HDS.out.step (k := k) HO2.out.2.1 rfl
                    rw [← HO2.out.1] at hst
                    have HST := Lib.hid hst
                    have HBR := Lib.hid (hbt.setCell (p := ⟨w.heap.size, k, none⟩) (Nat.le_refl _) (.int .i64 ((fadd p (nthN ds k) (fmul p (fmul p (nthN O k) (invV p l)) (nthN Y i)) : Nat) : Int)))
                    have HNN := Lib.hid (HNK.out.setCell ⟨w.heap.size, k, none⟩ (.int .i64 ((fadd p (nthN ds k) (fmul p (fmul p (nthN O k) (invV p l)) (nthN Y i)) : Nat) : Int)) HA1.out)
                    have i1 : (0 : Int) ≤ (k : Int) := by omega
                    have i2 : (k : Int) < (L.length : Int) := by omega
                    have i3 : (0 : Int) ≤ (i : Int) := by omega
                    have i4 : (i : Int) < (Y.length : Int) := by omega
                    clear hst HL HY HP
                    go_wp2_with fail
                    refine wp_region_still_tail 20 (by kernel_rfl) (by kernel_rfl) ?_
                    simp only [List.take_succ_cons, List.take_zero, List.drop_succ_cons, List.drop_zero]
                    repeat still_step
                    refine wpStill_nil ?_
                    go_wp2_with fail
                    go_roundw
                    case rel => exact ⟨k + 1, _, by omega, by go_num, HS.out, HST.out, HNN.out, HBR.out.drew⟩
                    case measure => simp [intOf]; omega
                  · obtain rfl : k = O.length := by omega
                    have hdn := HDS.out
                    rw [HO2.out.1] at hdn
                    have HDN := Lib.hid (hdn.done hp1)
                    clear hdn
                    go_wp2_with fail
                    go_roundw
                    case rel => exact ⟨i + 1, by omega, by go_num, by rw [← HDN.out]; exact hBk, hbt⟩
                    case measure => simp [intOf]; omega
          · obtain rfl : i = L.length := by omega
            have hsh := refShort_any _ _ _ wr hBi.nats (SlOK.own hBi (by rw [HRL.out]; unfold maxLen; omega)) (by rw [HRL.out]; omega)
            rw [HRL.out, ← HTH.out] at hsh
            go_wp2_with fail
            refine hsh.mono ?_
            intro e w6 hnl
            obtain ⟨A6, c6, rfl, hN6, hS6, hBd, hb6⟩ := hnl.open_
            have HX := Lib.hid (And.intro hN6 (And.intro hS6 (And.intro hBd (below_trans hbr hb6))))
            have hz6 := hbr.size
            clear hnl hN6 hS6 hBd hb6 hsh
            go_wp2_with fail
            go_ret2
            rw [HR.out]
            exact ⟨A6, c6, rfl, HX.out.1, HX.out.2.1, fun b off e => ⟨Nat.le_trans hz6 (HX.out.2.2.1 b off e).1, (HX.out.2.2.1 b off e).2⟩, HX.out.2.2.2⟩
      · have HR := Lib.hid (thR_no (p := p) (xs := L) (ys := Y) (by rw [hE]; exact h0))
        rw [hE]
        have HC := Lib.hid hpl
        have t5 : (ckE L != 0) = true := by simp; exact h0
        clear h0 hpl hA hB hL hY hE hlen hz hSA
        go_enter Try.func31, Try.ntmps31
        go_wp2_with fail
        refine ret_pure HC.out ?_
        go_wp2_with fail
        go_ret2
        rw [HR.out]
        exact ListErr.nil _ (Below.refl _ _)
    · have t4 : ((L.length : Int) != (Y.length : Int)) = true := by simp; omega
      have hE := itE_no hlen
      have HR := Lib.hid (thR_no (p := p) (xs := L) (ys := Y) (by rw [hE]; omega))
      rw [hE]
      clear hA hB hL hY hE hlen hz hSA
      go_enter Try.func31, Try.ntmps31
      go_wp2_with fail
      go_ret2
      rw [HR.out]
      exact ListErr.nil _ (Below.refl _ _)
end Go.Proofs.Ythbablmgpjjphaa
