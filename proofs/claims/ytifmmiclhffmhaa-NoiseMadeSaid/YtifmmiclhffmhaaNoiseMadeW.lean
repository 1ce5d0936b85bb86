/-
  NoiseMade: the walk.
-/
import Derived.Test.YtifmmiclhffmhaaNoiseNearW
namespace Go.Proofs.Ytifmmiclhffmhaa
open Go.RowKit

theorem lit_ints (w : World) (L : List Int) : IntsAt (w.alloc (.cells (L.map (Value.int .i64)).toArray 3)) (some ⟨w.heap.size, 0, none⟩) L :=
  IntBlk.ints (heap_alloc_new w _)
theorem below_alloc (w : World) (o : Obj) : Below w.heap.size w (w.alloc o) := (Below.refl _ _).alloc (Nat.le_refl _) _
theorem nth_mem {L : List Int} {k : Nat} (h : k < L.length) : nth L k ∈ L := by rw [nth_eq h]; exact List.getElem_mem h

set_option maxHeartbeats 400000 in
theorem of_any (D : Nat) (R : List Int) (A : Option Addr) (L : List Int) (c : Nat) (w : World) (h : DiceAt w D R) (hI : IntsAt w A L) (hne : ∀ b off, A = some ⟨b, off, none⟩ → b ≠ D) (hl : 1 ≤ L.length) (hl2 : L.length ≤ 1000000) :
    Calls Try.prog 20 #[.pointer (some ⟨D, 0, none⟩), .slice A L.length c] w (NextP D (nth L (nextV R L.length).toNat) R.tail w) := by
  have hr := nextV_range R L.length (by omega)
  obtain ⟨r1, r2⟩ := hr
  go_enter Try.func20, Try.ntmps20
  go_wp2_with fail
  refine (next_any D R L.length _ h (by omega)).mono ?_
  rintro e w1 ⟨rfl, hD1, hg⟩
  have hI1 := hI.grown hg hne
  have HH := Lib.hid (And.intro hD1 hg)
  clear hD1 hg hI h
  generalize hv : nextV R L.length = v at *
  obtain ⟨k, rfl⟩ := Int.eq_ofNat_of_zero_le r1
  have hk : k < L.length := by omega
  obtain ⟨b, off, rfl, hbl, hcell⟩ := hI1 k hk
  clear hv hI1
  go_wp2
  go_ret
  exact ⟨rfl, HH.out⟩

theorem grown_set {w w' : World} {r : Option Nat} (h : w.grownBy w' r) (p : Addr) (v : Value) (hp : w.heap.size ≤ p.block) : w.grownBy (w'.setCell p v) r :=
  ⟨h.os, h.tape, h.output, by simpa [World.setCell] using h.size, fun k hk hne => (Below.heap_setCell w' p v k (by omega)).trans (h.block k hk hne)⟩
def NoiseP (D : Nat) (w : World) (e : Ending) (w' : World) : Prop := ∃ (T A B : Int) (R : List Int), e = .returned (nz T A B) ∧ Good T A B ∧ DiceAt w' D R ∧ w.grownBy w' (some D)

theorem DiceAt.alloc {w : World} {D : Nat} {R : List Int} (h : DiceAt w D R) (o : Obj) : DiceAt (w.alloc o) D R := h.below (below_alloc w o)
theorem pick4 {k : Nat} (h : k < 4) : 1 ≤ nth [3, 1, 6, 24] k ∧ nth [3, 1, 6, 24] k ≤ 24 := by
  have : k = 0 ∨ k = 1 ∨ k = 2 ∨ k = 3 := by omega
  rcases this with rfl | rfl | rfl | rfl <;> decide

set_option maxHeartbeats 400000 in
theorem pnoise_any (D : Nat) (R : List Int) (w : World) (h : DiceAt w D R) :
    Calls Try.prog 17 #[.pointer (some ⟨D, 0, none⟩)] w (NoiseP D w) := by
  have hDlt := h.lt
  go_enter Try.func17, Try.ntmps17
  go_wp2_with fail
  refine (next_any D R 3 _ (h.alloc _) (by omega)).mono ?_
  rintro e w1 ⟨rfl, hD1, hg1⟩
  obtain ⟨x1, x2⟩ := nextV_range R 3 (by omega)
  generalize nextV R 3 = x at *
  go_wp2_with fail
  refine (of_any D R.tail _ [3, 1, 6, 24] 4 _ (hD1.alloc _) (lit_ints w1 [3, 1, 6, 24]) (fun b off e => ?_) (by simp) (by simp)).mono ?_
  · have := hD1.lt
    injection e with e; injection e with e1; omega
  rintro e w2 ⟨rfl, hD2, hg2⟩
  obtain ⟨y1, y2⟩ := nextV_range R.tail 4 (by omega)
  obtain ⟨t1, t2⟩ := pick4 (k := (nextV R.tail 4).toNat) (by omega)
  have e4 : ((([3, 1, 6, 24] : List Int).length : Nat) : Int) = 4 := rfl
  rw [e4]
  clear e4
  generalize nth [3, 1, 6, 24] (nextV R.tail 4).toNat = T at *
  clear y1 y2
  go_wp2_with fail
  refine (next_any D R.tail.tail _ _ hD2 (by omega)).mono ?_
  rintro e w3 ⟨rfl, hD3, hg3⟩
  obtain ⟨z1, z2⟩ := nextV_range R.tail.tail (2 + x - 1) (by omega)
  generalize nextV R.tail.tail (2 + x - 1) = z at *
  have hg13 : w.grownBy w3 (some D) := grown_trans (grown_trans (grown_trans (grown_of_below (below_alloc w _)) hg1) (grown_of_below (below_alloc w1 _))) (grown_trans hg2 hg3)
  have hk : w3.heap[w.heap.size]? = some (.cells #[.int .i64 0, .int .i64 0, .int .i64 0] 24 (0, 0)) := by
    have s1 : w.heap.size < w1.heap.size := Nat.lt_of_lt_of_le (by simp) hg1.size
    have s2 : w1.heap.size < w2.heap.size := Nat.lt_of_lt_of_le (by simp) hg2.size
    have hne : some w.heap.size ≠ some D := fun e => by injection e with e; omega
    rw [hg3.block _ (by omega) hne, hg2.block _ (by simp; omega) hne, Below.heap_alloc _ _ _ s1, hg1.block _ (by simp) hne]
    exact heap_alloc_new w _
  have k0 := cell_of_row w3 w.heap.size 0 _ _ (0, 0) hk
  have k1 := cell_of_row w3 w.heap.size 1 _ _ (0, 0) hk
  have k2 := cell_of_row w3 w.heap.size 2 _ _ (0, 0) hk
  have f0 : w3.frozen? ⟨w.heap.size, 0, none⟩ = false := by simp [World.frozen?, hk]
  have f1 : w3.frozen? ⟨w.heap.size, 1, none⟩ = false := by simp [World.frozen?, hk]
  have f2 : w3.frozen? ⟨w.heap.size, 2, none⟩ = false := by simp [World.frozen?, hk]
  simp at k0 k1 k2
  have HH := Lib.hid (And.intro hD3 hg13)
  clear hD3 hg13 hk hg1 hg2 hg3 hD1 hD2 h
  go_wp2_with fail
  have HF : Hid (NoiseP D w (.returned (nz T (1 + z) (2 + x))) (((w3.setCell ⟨w.heap.size, 0, none⟩ (.int .i64 T)).setCell ⟨w.heap.size, 1, none⟩ (.int .i64 (1 + z))).setCell ⟨w.heap.size, 2, none⟩ (.int .i64 (2 + x)))) :=
    ⟨T, 1 + z, 2 + x, _, rfl, by unfold Good; omega, ((HH.out.1.setCell _ _ hDlt).setCell _ _ hDlt).setCell _ _ hDlt, grown_set (grown_set (grown_set HH.out.2 _ _ (Nat.le_refl _)) _ _ (Nat.le_refl _)) _ _ (Nat.le_refl _)⟩
  exact bodyPost_ret (v := nz T (1 + z) (2 + x)) (by simp [results, Try.results17, go_sem, k0, k1, k2]) rfl HF.out

theorem ret_pure {P : Program} {f : FuncId} {args : Array Value} {w : World} {v : Value} {R : Ending → World → Prop} (h : Calls P f args w (Ret v w)) (hr : R (.returned v) w) : Calls P f args w R :=
  h.mono (by rintro e w1 ⟨rfl, rfl⟩; exact hr)
theorem ret_below {P : Program} {f : FuncId} {args : Array Value} {w : World} {v : Value} {R : Ending → World → Prop} (h : Calls P f args w (RetB v w)) (hr : ∀ w', Below w.heap.size w w' → R (.returned v) w') : Calls P f args w R :=
  h.mono (by rintro e w1 ⟨rfl, hb⟩; exact hr w1 hb)
theorem cells_n {w : World} {b : Nat} {T A B : Int} (h : w.heap[b]? = some (.cells #[.int .i64 T, .int .i64 A, .int .i64 B] 24 (0, 0))) {w' : World} {base : Nat} (hb : Below base w w') (hlt : b < base) :
    w'.cell? ⟨b, 0, none⟩ = some (.int .i64 T) ∧ w'.cell? ⟨b, 1, none⟩ = some (.int .i64 A) ∧ w'.cell? ⟨b, 2, none⟩ = some (.int .i64 B) := cell3 ((hb.block b hlt).trans h)

set_option maxRecDepth 100000 in
set_option maxHeartbeats 2000000 in
theorem noiseMade_walk (A0 : Option Addr) (L0 : List Int) (c0 : Nat) (w : World) (hl0 : L0.length ≤ maxLen) (hI0 : IntsAt w A0 L0) (_ : ∀ n ∈ L0, -9223372036854775808 ≤ n ∧ n ≤ 9223372036854775807) :
    Calls Try.prog 6 #[.slice A0 L0.length c0] w (RetB (.bool true) w) := by
  by_cases hlight : (L0.length : Int) ≤ 500
  · have e1 : decide ((L0.length : Int) ≤ 500) = true := decide_eq_true hlight
    have hL := light_any A0 L0.length c0 w
    rw [e1] at hL
    have HLt := Lib.hid hL
    clear hL e1
    go_enter Try.func6, Try.ntmps6
    go_wp2_with fail
    refine ret_pure HLt.out ?_
    clear HLt
    go_wp2_with fail
    refine (roll_any A0 L0 c0 _ hl0 hI0).mono ?_
    rintro e w1 ⟨D, rfl, hDs, hD, hb1⟩
    clear hI0
    go_wp2_with fail
    refine (pnoise_any D L0 _ hD).mono ?_
    rintro e w2 ⟨T, A, B, R2, rfl, hG, hD2, hg2⟩
    have HG := Lib.hid hG
    obtain ⟨g1, g2, g3, g4, g5⟩ := hG
    have hD2lt := hD2.lt
    have hbw2 : Below w.heap.size w w2 := hb1.trans (grown_below hg2 hDs hb1.size)
    go_wp2_with fail
    refine (next_any D R2 (T + 1) _ (hD2.alloc _) (by omega)).mono ?_
    rintro e w3 ⟨rfl, hD3, hg3⟩
    obtain ⟨v1, v2⟩ := nextV_range R2 (T + 1) (by omega)
    generalize nextV R2 (T + 1) = c at *
    generalize R2.tail = R3 at *
    have hbw3 : Below w.heap.size w w3 := (hbw2.alloc hbw2.size _).trans (grown_below hg3 hDs (Nat.le_trans hbw2.size (by simp)))
    have hk3 : w3.heap[w2.heap.size]? = some (.cells #[.int .i64 T, .int .i64 A, .int .i64 B] 24 (0, 0)) :=
      (hg3.block _ (by simp) (fun e => by injection e with e; omega)).trans (heap_alloc_new w2 _)
    have hlt3 : w2.heap.size < w3.heap.size := Nat.lt_of_lt_of_le (by simp) hg3.size
    clear hg3 hg2 hD hb1 hbw2 hD2
    obtain ⟨n0, n1, n2⟩ := cell3 hk3
    go_wp2_with fail
    refine (rweights_any T A B c _).mono ?_
    rintro e w4 ⟨v, rfl, hb4, o, rfl, hown⟩
    rw [wErr_good HG.out ⟨v1, by omega⟩]
    rw [wLst_good HG.out ⟨v1, by omega⟩] at hown
    obtain ⟨Aw, cw, rfl, hI⟩ := IntsAt.of_own hown rfl
    have hAlt : ∀ b off, Aw = some ⟨b, off, none⟩ → w3.heap.size ≤ b := fun b off e => by
      subst e
      exact (hown.lt b rfl).1
    clear hown n0 n1 n2
    have hW := WOK.of HG.out ⟨v1, by omega⟩
    obtain ⟨ht1, ht2⟩ := hW.tot
    have hp := hW.pos
    have HS := Lib.hid hW.sum
    have hL0 := weightsL_len T A B c (T + 1).toNat
    generalize hl : weightsL T A B c (T + 1).toNat = L at *
    clear hl hW
    have HP := Lib.hid hp
    have HP1 := Lib.hid (fun j hj => (hp j hj).1)
    have hL1 : L.length ≤ (T + 1).toNat := by omega
    have hL2 : (T + 1).toNat ≤ L.length := by omega
    clear hL0 hp
    have hk4 := (hb4.block _ hlt3).trans hk3
    have hD4 := hD3.below hb4
    have hbw4 := hbw3.trans (hb4.mono hbw3.size)
    have hlt4 := Nat.lt_of_lt_of_le hlt3 hb4.size
    have hz34 := hb4.size
    have hDlt4 : D < w2.heap.size := hD2lt
    generalize hnb : w2.heap.size = nb at *
    clear hk3 hD3 hbw3 hb4 hlt3 hnb hD2lt
    go_wp2_with fail
    go_loopw [8, 9] (fun s i wr => ∃ k : Nat, k ≤ L.length ∧ i = .int .i64 k ∧ s = .int .i64 (preS L k) ∧ Below w4.heap.size w4 wr) (fun _ i _ => L.length - (intOf i).toNat)
    case atStart => exact ⟨0, by omega, rfl, rfl, Below.refl _ _⟩
    case round =>
      obtain ⟨k, hk, rfl, rfl, hbr⟩ := hrel
      obtain ⟨wo, rfl⟩ : ∃ wo : World, wo = wr := ⟨_, rfl⟩
      have hIo := hI.below hbr
      have hko := (hbr.block _ hlt4).trans hk4
      have hlto := Nat.lt_of_lt_of_le hlt4 hbr.size
      obtain ⟨n0, n1, n2⟩ := cell3 hko
      have HKO := Lib.hid hko
      clear hko
      by_cases hlt : k < L.length
      · obtain ⟨bL, oL, rfl, hbL, cL⟩ := hIo k hlt
        have HSC := Lib.hid (preS_succ L k hlt)
        obtain ⟨p1, p2⟩ := HP.out k hlt
        have q0 := preS_nonneg HP1.out (Nat.le_of_lt hlt)
        have q1 := preS_le HP1.out (Nat.le_of_lt hlt) (Nat.le_refl _)
        have q2 : preS L L.length ≤ 36028797018963968 := by rw [show L.length = (T + 1).toNat by omega, HS.out]; exact ht2
        have r1 : IntKind.i64.wrap (preS L k + nth L k) = preS L k + nth L k := IntWalk.i64_in _ (by omega)
        have r2 : IntKind.i64.wrap (preS L k + nth L k - 1) = preS L k + nth L k - 1 := IntWalk.i64_in _ (by omega)
        have q3 : preS L k ≤ 36028797018963968 := by omega
        clear q1 q2 hI hIo
        have hbLne := World.new_ne wo ⟨bL, oL + k, none⟩ cL
        go_wp2_with fail
        go_region_held3 (fun w' => w'.cell? ⟨bL, oL + k, none⟩ = some (.int .i64 (nth L k))) (first | go_keep) (first | fail)
        go_wp2_with fail
        refine gen_world fun w5 hw5 => ?_
        have hb5 : Below wo.heap.size wo w5 := by rw [hw5]; exact ((Below.refl _ _).alloc (Nat.le_refl _) _).drew
        have hI5 : IntsAt w5 (some ⟨wo.heap.size, 0, none⟩) [preS L k, preS L k + nth L k - 1, preS L k + nth L k] := by rw [hw5]; exact lit_ints wo [preS L k, preS L k + nth L k - 1, preS L k + nth L k]
        have cL5 := (hb5.cell (p := ⟨bL, oL + k, none⟩) hbL).trans cL
        obtain ⟨m0, m1, m2⟩ := cells_n HKO.out hb5 hlto
        have hz5 := hb5.size
        have hbr5 : Below w4.heap.size w4 w5 := hbr.trans (hb5.mono hbr.size)
        have HK5 := Lib.hid ((hb5.block _ hlto).trans HKO.out)
        clear hw5 cL n0 n1 n2 hbLne hb5
        go_loopw [55] (fun i wr => ∃ m : Nat, m ≤ 3 ∧ i = .int .i64 m ∧ Below w5.heap.size w5 wr) (fun i _ => 3 - (intOf i).toNat)
        case atStart => exact ⟨0, by omega, rfl, Below.refl _ _⟩
        case round =>
          obtain ⟨m, hm, rfl, hbs⟩ := hrel
          have hlt5 : nb < w5.heap.size := by omega
          obtain ⟨d0, d1, d2⟩ := cells_n HK5.out hbs hlt5
          have hIs := hI5.below hbs
          have hlts := Nat.lt_of_lt_of_le hlt5 hbs.size
          have cLs := (hbs.cell (p := ⟨bL, oL + k, none⟩) (Nat.lt_of_lt_of_le hbL hz5)).trans cL5
          clear m0 m1 m2 hI5 cL5
          by_cases hm3 : m < 3
          · obtain ⟨b, off, e, _, cm⟩ := hIs m (by simpa using hm3)
            injection e with e
            injection e with e1 e2
            subst e1
            subst e2
            rw [Nat.zero_add] at cm
            clear hIs
            generalize nth [preS L k, preS L k + nth L k - 1, preS L k + nth L k] m = um at *
            have hlm : (m : Int) < (([preS L k, preS L k + nth L k - 1, preS L k + nth L k] : List Int).length : Int) := by simp; omega
            clear hlm
            go_wp2_with fail
            refine ret_below (agree_any T A B c k um _) fun w6 hb6 => ?_
            have hbs6 := hbs.trans (hb6.mono hbs.size)
            clear hb6 d0 d1 d2 cLs cm
            go_wp2_with fail
            go_roundw
            case rel => exact ⟨m + 1, by omega, by go_num, hbs6⟩
            case measure => simp [intOf]; omega
          · have hbr6 := hbr5.trans (hbs.mono hbr5.size)
            clear hIs d0 d1 d2
            go_wp2_with fail
            go_roundw
            case rel => exact ⟨k + 1, by omega, by go_num, by rw [HSC.out], hbr6⟩
            case measure => simp [intOf]; omega
      · clear hI hIo n0 n1 n2
        go_wp2_with fail
        refine ret_below (awake_any _) fun w5 hb5 => ?_
        have hD5 := (hD4.below hbr).below hb5
        have hbw5 : Below w.heap.size w w5 := (hbw4.trans (hbr.mono hbw4.size)).trans (hb5.mono (Nat.le_trans hbw4.size hbr.size))
        have hlt5 : D < w5.heap.size := hD5.lt
        clear hb5
        go_wp2_with fail
        refine (of_any D R3 _ [0, 1, 24, 25] 4 _ (hD5.alloc _) (lit_ints w5 [0, 1, 24, 25]) (fun b off e => by injection e with e; injection e with e1; omega) (by simp) (by simp)).mono ?_
        rintro e w6 ⟨rfl, hD6, hg6⟩
        have hbw6 : Below w.heap.size w w6 := (hbw5.alloc hbw5.size _).trans (grown_below hg6 hDs (Nat.le_trans hbw5.size (by simp)))
        have hlt6 : D < w6.heap.size := hD6.lt
        generalize nth [0, 1, 24, 25] (nextV R3 (([0, 1, 24, 25] : List Int).length : Nat)).toNat = T' at *
        clear hg6 hD5 hbw5
        go_wp2_with fail
        refine (of_any D R3.tail _ [0, 1, 2, 3, 4] 5 _ (hD6.alloc _) (lit_ints w6 [0, 1, 2, 3, 4]) (fun b off e => by injection e with e; injection e with e1; omega) (by simp) (by simp)).mono ?_
        rintro e w7 ⟨rfl, hD7, hg7⟩
        have hbw7 : Below w.heap.size w w7 := (hbw6.alloc hbw6.size _).trans (grown_below hg7 hDs (Nat.le_trans hbw6.size (by simp)))
        have hlt7 : D < w7.heap.size := hD7.lt
        generalize nth [0, 1, 2, 3, 4] (nextV R3.tail (([0, 1, 2, 3, 4] : List Int).length : Nat)).toNat = A' at *
        clear hg7 hD6 hbw6
        go_wp2_with fail
        refine (of_any D R3.tail.tail _ [1, 2, 4, 5] 4 _ (hD7.alloc _) (lit_ints w7 [1, 2, 4, 5]) (fun b off e => by injection e with e; injection e with e1; omega) (by simp) (by simp)).mono ?_
        rintro e w8 ⟨rfl, hD8, hg8⟩
        have hbw8 : Below w.heap.size w w8 := (hbw7.alloc hbw7.size _).trans (grown_below hg8 hDs (Nat.le_trans hbw7.size (by simp)))
        generalize nth [1, 2, 4, 5] (nextV R3.tail.tail (([1, 2, 4, 5] : List Int).length : Nat)).toNat = B' at *
        generalize R3.tail.tail.tail = R6 at *
        clear hg8 hD7 hbw7
        go_wp2_with fail
        refine (next_any D R6 26 _ hD8 (by omega)).mono ?_
        rintro e w9 ⟨rfl, hD9, hg9⟩
        have hbw9 := hbw8.trans (grown_below hg9 hDs hbw8.size)
        clear hD8 hg9 hbw8
        go_wp2_with fail
        refine (next_any D R6.tail 26 _ hD9 (by omega)).mono ?_
        rintro e w10 ⟨rfl, hD10, hg10⟩
        have hbw10 := hbw9.trans (grown_below hg10 hDs hbw9.size)
        clear hD9 hg10 hbw9
        go_wp2_with fail
        refine (next_any D R6.tail.tail 100 _ hD10 (by omega)).mono ?_
        rintro e w11 ⟨rfl, hD11, hg11⟩
        have hbw11 := hbw10.trans (grown_below hg11 hDs hbw10.size)
        clear hD10 hg11 hbw10 hD11
        go_wp2_with fail
        refine ret_below (agree_any T' A' B' _ _ _ _) fun w12 hb12 => ?_
        go_wp2
        go_ret
        exact RetB.bool rfl (hbw11.trans (hb12.mono hbw11.size))
  · have e1 : decide ((L0.length : Int) ≤ 500) = false := decide_eq_false hlight
    have hL := light_any A0 L0.length c0 w
    rw [e1] at hL
    have HLt := Lib.hid hL
    clear hL e1
    go_enter Try.func6, Try.ntmps6
    go_wp2_with fail
    refine ret_pure HLt.out ?_
    clear HLt
    go_wp2_with fail
    refine ret_below (awake_any _) fun w1 hb1 => ?_
    go_wp2
    go_ret
    exact RetB.bool rfl hb1
end Go.Proofs.Ytifmmiclhffmhaa
