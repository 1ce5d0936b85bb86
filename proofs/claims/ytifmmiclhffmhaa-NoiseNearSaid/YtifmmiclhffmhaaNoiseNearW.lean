/-
  NoiseNear: the walk.
-/
import Derived.Test.YtifmmiclhffmhaaNoisePrivateW
namespace Go.Proofs.Ytifmmiclhffmhaa
open Go.RowKit

theorem drawZ_spec (l : List Int) : ∀ (u : Int), (∀ k, k < l.length → 1 ≤ nth l k) → 0 ≤ u → u < l.sum → drawZ l u < l.length ∧ preS l (drawZ l u) ≤ u ∧ u < preS l (drawZ l u + 1) := by
  induction l with
  | nil => intro u _ h1 h2; simp at h2; omega
  | cons x l ih =>
    intro u hp h0 hs
    have hx : 1 ≤ x := by have := hp 0 (by simp); simpa [nth] using this
    rw [List.sum_cons] at hs
    unfold drawZ
    by_cases h : u < x
    · rw [if_pos h]; refine ⟨by simp, by rw [preS_zero]; exact h0, ?_⟩
      simp [preS]; exact h
    · rw [if_neg h]
      have := ih (u - x) (fun k hk => by have := hp (k + 1) (by simpa using hk); simpa [nth] using this) (by omega) (by omega)
      have e1 : preS (x :: l) (1 + drawZ l (u - x)) = x + preS l (drawZ l (u - x)) := by rw [Nat.add_comm]; simp [preS]
      have e2 : preS (x :: l) (1 + drawZ l (u - x) + 1) = x + preS l (drawZ l (u - x) + 1) := by rw [Nat.add_comm 1]; simp [preS]
      rw [e1, e2]
      simp only [List.length_cons]
      omega
/-- How many of the numbers below u lie at place z. -/
def cntF (l : List Int) (u : Int) (z : Nat) : Int := max 0 (min u (preS l (z + 1)) - preS l z)
theorem cntF_zero (l : List Int) (z : Nat) (h : 0 ≤ preS l z) : cntF l 0 z = 0 := by unfold cntF; omega
theorem cntF_same (l : List Int) (u : Int) (z : Nat) (h1 : preS l z ≤ u) (h2 : u < preS l (z + 1)) : cntF l (u + 1) z = cntF l u z + 1 := by unfold cntF; omega
theorem cntF_other (l : List Int) (u : Int) (z : Nat) (h : u < preS l z ∨ preS l (z + 1) ≤ u) : cntF l (u + 1) z = cntF l u z := by unfold cntF; omega
theorem preS_le {l : List Int} (hp : ∀ k, k < l.length → 1 ≤ nth l k) {m n : Nat} (h : m ≤ n) (hn : n ≤ l.length) : preS l m ≤ preS l n := by
  have := preS_mono hp n m h hn; omega
theorem preS_nonneg {l : List Int} (hp : ∀ k, k < l.length → 1 ≤ nth l k) {n : Nat} (hn : n ≤ l.length) : 0 ≤ preS l n := by
  have := preS_le hp (Nat.zero_le n) hn; rwa [preS_zero] at this
theorem cntF_bound {l : List Int} {u : Int} {d : Nat} (hu : 0 ≤ u) (hd : 0 ≤ preS l d) : 0 ≤ cntF l u d ∧ cntF l u d ≤ u := by unfold cntF; omega
theorem cntF_step {l : List Int} (hp : ∀ k, k < l.length → 1 ≤ nth l k) {u : Int} {d : Nat} (hd : d < l.length) (h1 : preS l d ≤ u) (h2 : u < preS l (d + 1)) (z : Nat) (hz : z < l.length) (hne : d ≠ z) : cntF l (u + 1) z = cntF l u z := by
  refine cntF_other l u z ?_
  rcases Nat.lt_or_ge d z with h | h
  · left; have := preS_le hp (show d + 1 ≤ z from h) (by omega); omega
  · right; have := preS_le hp (show z + 1 ≤ d by omega) (by omega); omega
theorem cntF_end {l : List Int} (hp : ∀ k, k < l.length → 1 ≤ nth l k) (z : Nat) (hz : z < l.length) : cntF l (preS l l.length) z = nth l z := by
  have h1 := preS_le hp (show z + 1 ≤ l.length from hz) (Nat.le_refl _)
  have h2 := preS_succ l z hz
  have h3 := hp z hz
  unfold cntF; omega
theorem sum_preS (l : List Int) : l.sum = preS l l.length := by simp [preS]
/-- One number more is counted. -/
theorem cnt_next {l : List Int} (hp : ∀ k, k < l.length → 1 ≤ nth l k) {u : Int} (hu : 0 ≤ u) (hu2 : u < preS l l.length) (cs : List Int) (hl : cs.length = l.length) (h : ∀ z, z < l.length → nth cs z = cntF l u z) :
    ∀ z, z < l.length → nth (cs.set (drawZ l u) (nth cs (drawZ l u) + 1)) z = cntF l (u + 1) z := by
  obtain ⟨d1, d2, d3⟩ := drawZ_spec l u hp hu (by rw [sum_preS]; exact hu2)
  intro z hz
  by_cases e : drawZ l u = z
  · subst e
    rw [nth_set_same _ _ _ (by omega), h _ d1, cntF_same l u _ d2 d3]
  · rw [nth_set_other _ _ _ _ e, h z hz, cntF_step hp d1 d2 d3 z hz e]
theorem near_ok {T A B k z : Int} (h : Good T A B) (hk : 0 ≤ k ∧ k ≤ T) (hz : 1 ≤ z ∧ z + 1 < T) :
    (z < k → weightW T A B k z < weightW T A B k (z + 1)) ∧ (¬ z < k → weightW T A B k (z + 1) < weightW T A B k z) := by
  obtain ⟨t, a, b, rfl, rfl, rfl, h1, h2, h3, h4, h5⟩ := h.nats
  obtain ⟨k, rfl⟩ := Int.eq_ofNat_of_zero_le hk.1
  obtain ⟨z, rfl⟩ := Int.eq_ofNat_of_zero_le (show 0 ≤ z by omega)
  have hf := okAt_near (okAt_true t a b k h1 h2 h3 h4 h5 (by omega)) (show 1 ≤ z by omega) (by omega)
  rw [weightW_nat t a b k z h2 h4 h5 (by omega) (by omega), show (z : Int) + 1 = ((z + 1 : Nat) : Int) from rfl, weightW_nat t a b k (z + 1) h2 h4 h5 (by omega) (by omega)]
  omega
theorem draw_good (T A B c u : Int) (w : World) (hG : Good T A B) (hc : 0 ≤ c ∧ c ≤ T) (hu : 0 ≤ u ∧ u ≤ totalW T A B - 1) :
    Calls Try.prog 11 #[nz T A B, .int .i64 c, .int .i64 u] w (RetB (.tuple #[.int .i64 (drawZ (weightsL T A B c (T + 1).toNat) u : Nat), .int .i64 0]) w) := by
  have := draw_any T A B c u w
  have e := dv_in (wErr_good hG hc) hu
  rw [wLst_good hG hc] at e
  rw [e.1, e.2] at this
  exact this
theorem IntsAt.setCell {w : World} {A : Option Addr} {L : List Int} {g : Nat} (h : IntsAt w A L) (hne : ∀ b off, A = some ⟨b, off, none⟩ → b ≠ g) (j : Nat) (v : Value) : IntsAt (w.setCell ⟨g, j, none⟩ v) A L := fun k hk => by
  obtain ⟨b, off, hA, hlt, hc⟩ := h k hk
  refine ⟨b, off, hA, by simpa [World.setCell] using hlt, ?_⟩
  rw [World.cell?_setCell_other _ _ _ _ (fun e => hne b off hA (by injection e with e; exact e.symm))]; exact hc
theorem cell3 {w : World} {b : Nat} {x y z : Int} {t : TypeId} (h : w.heap[b]? = some (.cells #[.int .i64 x, .int .i64 y, .int .i64 z] t (0, 0))) :
    w.cell? ⟨b, 0, none⟩ = some (.int .i64 x) ∧ w.cell? ⟨b, 1, none⟩ = some (.int .i64 y) ∧ w.cell? ⟨b, 2, none⟩ = some (.int .i64 z) := by
  refine ⟨?_, ?_, ?_⟩ <;> (rw [cell_of_row w b _ _ _ (0, 0) h]; rfl)

set_option maxRecDepth 100000 in
set_option maxHeartbeats 2000000 in
theorem noiseNear_walk (x y c : Int) (w : World) (hx : 0 ≤ x ∧ x ≤ 255) (hy : 0 ≤ y ∧ y ≤ 255) (hc : 0 ≤ c ∧ c ≤ 255) :
    Calls Try.prog 4 #[.int .u8 x, .int .u8 y, .int .u8 c] w (RetB (.bool true) w) := by
  have h1 := Int.emod_nonneg x (b := 6) (by omega)
  have h2 := Int.emod_lt_of_pos x (b := 6) (by omega)
  have h3 := Int.emod_nonneg y (b := 2) (by omega)
  have h4 := Int.emod_lt_of_pos y (b := 2) (by omega)
  have h7 := Int.emod_nonneg c (b := 1 + x % 6 + 1) (by omega)
  have h8 := Int.emod_lt_of_pos c (b := 1 + x % 6 + 1) (by omega)
  go_enter Try.func4, Try.ntmps4
  go_wp2_with fail
  generalize hT : 1 + x % 6 = T at *
  generalize hA : 1 + y % 2 = A at *
  generalize hk0 : c % (T + 1) = k at *
  have T1 : 1 ≤ T := by omega
  have T2 : T ≤ 24 := by omega
  have k2 : k ≤ T := by omega
  have HG := Lib.hid (show Good T A 3 by unfold Good; omega)
  clear hT hA hk0 h1 h2 h3 h4
  refine (weights_any_good T A 3 k _ HG.out h7 k2).mono ?_
  rintro e w1 ⟨v, rfl, hb, o, rfl, hown⟩
  rw [wErr_good HG.out ⟨h7, k2⟩]
  rw [wLst_good HG.out ⟨h7, k2⟩] at hown
  obtain ⟨Aw, cw, rfl, hI⟩ := IntsAt.of_own hown rfl
  clear hown
  have hbw : Below w.heap.size w w1 := ((Below.refl _ _).alloc (Nat.le_refl _) _).trans (hb.mono (by simp))
  have hlt1 : w.heap.size < w1.heap.size := by have := hb.size; simp at this; omega
  obtain ⟨c0, c1, c2⟩ := cell3 ((hb.block w.heap.size (by simp)).trans (heap_alloc_new w _))
  clear hb
  have hW := WOK.of HG.out ⟨h7, k2⟩
  obtain ⟨ht1, ht2⟩ := hW.tot
  have hp := hW.pos
  have HS := Lib.hid hW.sum
  have HLn := Lib.hid (weightsL_len T A 3 k (T + 1).toNat)
  have HN := Lib.hid (fun j (hj : j < (T + 1).toNat) => nth_weightsL T A 3 k (T + 1).toNat j hj)
  have HD := Lib.hid (fun u W hu => draw_good T A 3 k u W HG.out ⟨h7, k2⟩ hu)
  generalize hl : weightsL T A 3 k (T + 1).toNat = L at *
  clear hl hW
  have HP := Lib.hid (fun j hj => (hp j hj).1)
  have hLe : ((L.length : Int) != T + 1) = false := by rw [HLn.out]; simp; omega
  have hL0 := HLn.out
  have hL1 : L.length ≤ (T + 1).toNat := by omega
  have hL2 : (T + 1).toNat ≤ L.length := by omega
  clear hL0 hp
  have hAlt : ∀ b off, Aw = some ⟨b, off, none⟩ → b < w1.heap.size := fun b off e => by
    obtain ⟨b', off', e', hl', _⟩ := hI 0 (by omega)
    rw [e] at e'; cases e'; exact hl'
  go_wp2_with fail
  clear hLe
  go_loopw [11] (fun i wr => ∃ j : Nat, 1 ≤ j ∧ (j : Int) ≤ T + 1 ∧ i = .int .i64 j ∧ Below w1.heap.size w1 wr) (fun i _ => (T + 1).toNat - (intOf i).toNat)
  case atStart => exact ⟨1, by omega, by omega, rfl, Below.refl _ _⟩
  case round =>
    obtain ⟨j, hj1, hj, rfl, hbr⟩ := hrel
    have hcr0 := (hbr.cell (p := ⟨w.heap.size, 0, none⟩) hlt1).trans c0
    have hcr1 := (hbr.cell (p := ⟨w.heap.size, 1, none⟩) hlt1).trans c1
    have hcr2 := (hbr.cell (p := ⟨w.heap.size, 2, none⟩) hlt1).trans c2
    have hltr := Nat.lt_of_lt_of_le hlt1 hbr.size
    have hIr := hI.below hbr
    by_cases hjT : (j : Int) + 1 < T
    · obtain ⟨bL, oL, hA0, hbL, cL⟩ := hIr j (by omega)
      obtain ⟨bL', oL', hA1, _, cL'⟩ := hIr (j + 1) (by omega)
      rw [hA0] at hA1
      cases hA1
      subst hA0
      have hn := near_ok HG.out ⟨h7, k2⟩ (z := j) ⟨by omega, hjT⟩
      rw [show (j : Int) + 1 = ((j + 1 : Nat) : Int) from rfl, ← HN.out j (by omega), ← HN.out (j + 1) (by omega)] at hn
      obtain ⟨hn1, hn2⟩ := hn
      have q1 : IntKind.i64.wrap ((j : Int) + 1) = (j : Int) + 1 := IntWalk.i64_in _ (by omega)
      have q2 : ((j : Int) + 1).toNat = j + 1 := by omega
      have q3 : (0 : Int) ≤ (j : Int) + 1 := by omega
      have q4 : ((j : Int) + 1) < (L.length : Int) := by omega
      clear c0 c1 c2 hI hIr
      by_cases hjk : (j : Int) < k
      · have g1 : (decide ((j : Int) < k)) = true := decide_eq_true hjk
        have g2 : (decide (k ≤ (j : Int))) = false := decide_eq_false (by omega)
        have g3 : (decide (nth L (j + 1) ≤ nth L j)) = false := decide_eq_false (by have := hn1 hjk; omega)
        clear hn1 hn2
        go_wp2_with fail
        go_quiet (fail)
        clear q1 q2 q3 q4
        go_wp2_with fail
        go_roundw
        case rel => exact ⟨j + 1, by omega, by omega, by go_num, below_drewN hbr _⟩
        case measure => simp [intOf]; omega
      · have g1 : (decide ((j : Int) < k)) = false := decide_eq_false hjk
        have g2 : (decide (k ≤ (j : Int))) = true := decide_eq_true (by omega)
        have g3 : (decide (nth L j ≤ nth L (j + 1))) = false := decide_eq_false (by have := hn2 hjk; omega)
        clear hn1 hn2
        go_wp2_with fail
        go_quiet (fail)
        clear q1 q2 q3 q4
        go_wp2_with fail
        go_roundw
        case rel => exact ⟨j + 1, by omega, by omega, by go_num, below_drewN hbr _⟩
        case measure => simp [intOf]; omega
    · clear c0 c1 c2 hI
      go_wp2_with (at_make; refine make_ints rfl _ _ rfl (T + 1).toNat rfl rfl (by omega) (by omega) ?_; intro w3 hB3 hb3)
      have e0 := (hb3.cell (p := ⟨w.heap.size, 0, none⟩) hltr).trans hcr0
      have e1 := (hb3.cell (p := ⟨w.heap.size, 1, none⟩) hltr).trans hcr1
      have e2 := (hb3.cell (p := ⟨w.heap.size, 2, none⟩) hltr).trans hcr2
      have hI3 := hIr.below hb3
      have hg3 := hB3.lt
      have hbw3 : Below w.heap.size w w3 := hbw.trans ((hbr.trans (hb3.mono hbr.size)).mono hbw.size)
      have hz3 : w.heap.size < wr.heap.size := hltr
      have hAg : ∀ b off, Aw = some ⟨b, off, none⟩ → b < wr.heap.size := fun b off e => Nat.lt_of_lt_of_le (hAlt b off e) hbr.size
      generalize hg : wr.heap.size = g at *
      clear hcr0 hcr1 hcr2 hIr hb3 hg hbr hltr hAlt
      go_loopw [13] (fun i wr => ∃ (u : Nat) (cs : List Int), (u : Int) ≤ totalW T A 3 ∧ i = .int .i64 u ∧ IntBlk wr g cs ∧ cs.length = L.length ∧ (∀ z, z < L.length → nth cs z = cntF L u z) ∧ Below g w3 wr ∧ w3.heap.size ≤ wr.heap.size ∧ IntsAt wr Aw L) (fun i _ => (totalW T A 3).toNat - (intOf i).toNat)
      case atStart =>
        refine ⟨0, List.replicate (T + 1).toNat 0, by omega, rfl, hB3, by simp; omega, fun z hz => ?_, Below.refl _ _, Nat.le_refl _, hI3⟩
        have := preS_le HP.out (show 0 ≤ z by omega) (show z ≤ L.length by omega)
        rw [nth_replicate, Int.natCast_zero, cntF_zero L z (by rw [preS_zero] at this; exact this)]
      case round =>
        obtain ⟨u, cs, hu, rfl, hB, hcl, hcn, hbs, hzs, hIs⟩ := hrel
        have d0 := (hbs.cell (p := ⟨w.heap.size, 0, none⟩) hz3).trans e0
        have d1 := (hbs.cell (p := ⟨w.heap.size, 1, none⟩) hz3).trans e1
        have d2 := (hbs.cell (p := ⟨w.heap.size, 2, none⟩) hz3).trans e2
        have hzw : w.heap.size < wr.heap.size := by omega
        have HCN := Lib.hid hcn
        have HCL := Lib.hid hcl
        clear hcn hcl e0 e1 e2 hI3
        have hGd := HG.out
        obtain ⟨_, _, g3, g4, g5⟩ := hGd
        go_wp2_with fail
        refine (total_ok T A 3 _ T1 T2 g3 g4 g5).mono ?_
        rintro e w4 ⟨rfl, hb4⟩
        have a0 := (hb4.cell (p := ⟨w.heap.size, 0, none⟩) hzw).trans d0
        have a1 := (hb4.cell (p := ⟨w.heap.size, 1, none⟩) hzw).trans d1
        have a2 := (hb4.cell (p := ⟨w.heap.size, 2, none⟩) hzw).trans d2
        have hzw4 := Nat.lt_of_lt_of_le hzw hb4.size
        clear d0 d1 d2
        by_cases hut : (u : Int) < totalW T A 3
        · go_wp2_with fail
          refine (HD.out u _ ⟨by omega, by omega⟩).mono ?_
          rintro e w5 ⟨rfl, hb5⟩
          obtain ⟨z1, z2, z3⟩ := drawZ_spec L u HP.out (by omega) (by rw [sum_preS, HLn.out, HS.out]; exact hut)
          have hb45 := below_trans hb4 hb5
          have b0 := (hb5.cell (p := ⟨w.heap.size, 0, none⟩) hzw4).trans a0
          have b1 := (hb5.cell (p := ⟨w.heap.size, 1, none⟩) hzw4).trans a1
          have b2 := (hb5.cell (p := ⟨w.heap.size, 2, none⟩) hzw4).trans a2
          have hB5 := hB.below hb45
          have hcc := hB5.cell (drawZ L u) (by rw [HCL.out]; exact z1)
          have hff := hB5.frozen (drawZ L u)
          have HNX := Lib.hid (cnt_next HP.out (show (0 : Int) ≤ u by omega) (by rw [HLn.out, HS.out]; exact hut) cs HCL.out HCN.out)
          have hzz : ((drawZ L u : Nat) : Int) < ((T + 1).toNat : Int) := by omega
          have hI5 := hIs.below hb45
          have hne : ∀ b off, Aw = some ⟨b, off, none⟩ → b ≠ g := fun b off e => Nat.ne_of_lt (hAg b off e)
          generalize hdz : drawZ L u = d at *
          have hset := hB5.set_ d (nth cs d + 1)
          have hIs5 := hI5.setCell hne d (.int .i64 (nth cs d + 1))
          have hbd : Below g w3 (w5.setCell ⟨g, d, none⟩ (.int .i64 (nth cs d + 1))) := (hbs.trans (hb45.mono (by omega))).setCell (Nat.le_refl _) _
          have hzz5 : w3.heap.size ≤ (w5.setCell ⟨g, d, none⟩ (.int .i64 (nth cs d + 1))).heap.size := by simp [World.setCell]; exact Nat.le_trans hzs hb45.size
          have HH := Lib.hid (And.intro hset (And.intro hIs5 (And.intro hbd hzz5)))
          have hcb : -9223372036854775808 ≤ nth cs d + 1 ∧ nth cs d + 1 ≤ 9223372036854775807 := by
            have q1 := HCN.out d z1
            have q2 := cntF_bound (show (0 : Int) ≤ u by omega) (preS_nonneg HP.out (Nat.le_of_lt z1))
            rw [← q1] at q2; omega
          clear a0 a1 a2 hdz hset hIs5 hbd hzz5 hB5 hI5 hIs hB z2 z3 hb4 hb5 hb45
          go_wp2
          go_roundw
          case rel =>
            obtain ⟨p1, p2, p3, p4⟩ := HH.out
            exact ⟨u + 1, cs.set d (nth cs d + 1), by omega, by go_num, p1, by rw [List.length_set]; exact HCL.out, HNX.out, p3, p4, p2⟩
          case measure => simp [intOf]; omega
        · have hut' : (u : Int) = totalW T A 3 := by omega
          have HCS := Lib.hid (show cs = L from list_ext_nth HCL.out (fun z hz => by
            have hz' : z < L.length := by rw [← HCL.out]; exact hz
            rw [HCN.out z hz', hut', ← HS.out, ← HLn.out]; exact cntF_end HP.out z hz'))
          have hB4 := hB.below hb4
          clear hut'
          go_wp2_with fail
          refine (awake_any _).mono ?_
          rintro e w5 ⟨rfl, hb5⟩
          have hJ5 := (hB4.below hb5).ints
          rw [HCS.out] at hJ5
          have hI5 := (hIs.below hb4).below hb5
          rw [show (T + 1).toNat = L.length from HLn.out.symm]
          go_wp2_with fail
          refine (same_refl _ _ L _ _ _ hJ5 hI5 (by omega)).mono ?_
          rintro e w6 ⟨rfl, rfl⟩
          go_wp2
          go_ret
          have hb45 := below_trans hb4 hb5
          exact RetB.bool rfl (hbw3.trans ((hbs.trans (hb45.mono (by omega))).mono (by omega)))
end Go.Proofs.Ytifmmiclhffmhaa
