/-
  Polynomials: dice and lists while a statement runs; the sanity check; places and values that dice give.
-/
import Derived.Test.YthbablmgpjjphaaPolS
namespace Go.Proofs.Ythbablmgpjjphaa
open Go.RowKit

/-- A list that lies somewhere, not in the dice. -/
structure Held (w : World) (D : Nat) (A : Option Addr) (c : Nat) (L : List Nat) : Prop where
  nats : NatsAt w A L
  ok : SlOK A c L
  off : ∀ b off, A = some ⟨b, off, none⟩ → b ≠ D
theorem Held.mv {w w' : World} {D : Nat} {A : Option Addr} {c : Nat} {L : List Nat} (h : Held w D A c L) (g : w.grownBy w' (some D)) : Held w' D A c L := ⟨h.nats.grown g h.off, h.ok, h.off⟩
theorem Held.below {w w' : World} {D : Nat} {A : Option Addr} {c : Nat} {L : List Nat} (h : Held w D A c L) (hb : Below w.heap.size w w') : Held w' D A c L := h.mv (grown_of_below hb)
/-- The dice, and what was there when the statement began. -/
structure Env (w0 w : World) (D : Nat) (R : List Int) : Prop where
  dice : DiceAt w D R
  low : w0.heap.size ≤ D
  below : Below w0.heap.size w0 w
theorem Env.lt {w0 w : World} {D : Nat} {R : List Int} (h : Env w0 w D R) : D < w.heap.size := h.dice.lt
theorem Env.mv {w0 w w' : World} {D : Nat} {R : List Int} (h : Env w0 w D R) (hb : Below w.heap.size w w') : Env w0 w' D R := ⟨h.dice.below hb, h.low, below_trans h.below hb⟩
theorem Env.next {w0 w w' : World} {D : Nat} {R R' : List Int} (h : Env w0 w D R) (hd : DiceAt w' D R') (g : w.grownBy w' (some D)) : Env w0 w' D R' :=
  ⟨hd, h.low, h.below.trans (grown_below g h.low h.below.size)⟩
theorem held_new {w w' : World} {D : Nat} {A : Option Addr} {c : Nat} {L : List Nat} (hD : D < w.heap.size) (hN : NatsAt w' A L) (hS : SlOK A c L) (hb : ∀ b off, A = some ⟨b, off, none⟩ → w.heap.size ≤ b ∧ b < w'.heap.size) : Held w' D A c L :=
  ⟨hN, hS, fun b off e => by have := hb b off e; omega⟩

theorem thN_awake : thN 7 [1, 2] [2, 3] = [1, 1] := by decide +kernel
set_option maxRecDepth 100000 in
set_option maxHeartbeats 1000000 in
theorem awake_any (w : World) : Calls Try.prog 9 #[] w (RetB (.bool true) w) := by
  have hth : ∀ (w : World) (A B : Option Addr), NatsAt w A [1, 2] → NatsAt w B [2, 3] → Calls Try.prog 30 #[.int .i64 7, .slice A 2 2, .slice B 2 2] w (ListErr [1, 1] 0 w) := fun w A B hA hB => by
    have h := through_any 7 A B [1, 2] [2, 3] 2 2 w (by omega) (by omega) hA hB (by decide) (by decide) (by decide)
    have e1 : itE [1, 2] [2, 3] = 0 := rfl
    rw [thR_ok e1, e1, thN_awake] at h
    exact h
  have hdg : ∀ (w : World) (A : Option Addr), NatsAt w A [1, 0, 2, 0] → Calls Try.prog 18 #[.slice A 4 4] w (RetB (.int .i64 2) w) := fun w A hA => by
    have h := degree_any A [1, 0, 2, 0] 4 w hA (by decide)
    exact h
  have HT := Lib.hid hth
  have HD := Lib.hid hdg
  clear hth hdg
  go_enter Try.func9, Try.ntmps9
  go_wp2_with fail
  refine (HT.out _ _ _ ((lit2_nats w 1 2).nats.alloc _) (by have := (lit2_nats (w.alloc (.cells #[.int .i64 1, .int .i64 2] 3)) 2 3).nats; simpa using this)).mono ?_
  rintro e w1 ⟨A, c, rfl, hN, hS, -, hb⟩
  obtain ⟨b, off, rfl, hb0, c0⟩ := hN 0 (by simp)
  obtain ⟨b', off', e', _, c1⟩ := hN 1 (by simp)
  injection e' with e'; injection e' with e1 e2; subst e1; subst e2
  have hcl := hS.len
  simp [nthN] at c0 c1 hcl
  have hbw : Below w.heap.size w w1 := below_of_alloc (below_of_alloc (hb.mono (by simp; omega)) (by simp)) (Nat.le_refl _)
  clear hN hS hb
  go_wp2_with fail
  refine (HD.out _ _ (by exact (show NatBlk (w1.alloc (.cells #[.int .i64 1, .int .i64 0, .int .i64 2, .int .i64 0] 3)) w1.heap.size [1, 0, 2, 0] from heap_alloc_new w1 _).nats)).mono ?_
  rintro e w2 ⟨rfl, hb2⟩
  go_wp2_with fail
  go_ret
  exact RetB.bool rfl (below_trans hbw (below_of_alloc (hb2.mono (by simp)) (Nat.le_refl _)))

/-- Places and values. -/
def PointsP (D p most : Nat) (w : World) (e : Ending) (w' : World) : Prop :=
  ∃ X cx xs Y cy ys R', e = .returned (.tuple #[.slice X xs.length cx, .slice Y ys.length cy]) ∧ xs.Nodup ∧ (∀ x ∈ xs, x < p) ∧ (∀ y ∈ ys, y < p) ∧ ys.length = xs.length ∧ xs.length ≤ most ∧
    Held w' D X cx xs ∧ Held w' D Y cy ys ∧ DiceAt w' D R' ∧ w.grownBy w' (some D)
theorem twice_step {x : Nat} {L : List Nat} {k : Nat} (h : k < L.length) : (decide (x ∈ L.take (k + 1))) = (decide (x ∈ L.take k) || decide (x = nthN L k)) := by
  rw [List.take_succ_eq_append_getElem h, nthN_eq h, Bool.eq_iff_iff]
  simp only [decide_eq_true_eq, Bool.or_eq_true, List.mem_append, List.mem_singleton]
def NextN (D : Nat) (n : Int) (R : List Int) (w : World) (e : Ending) (w' : World) : Prop := ∃ m : Nat, e = .returned (.int .i64 (m : Int)) ∧ (m : Int) < n ∧ DiceAt w' D R.tail ∧ w.grownBy w' (some D)
theorem next_nat (D : Nat) (R : List Int) (n : Int) (w : World) (h : DiceAt w D R) (h1 : 1 ≤ n) (hn : n ≤ 4611686018427387904) :
    Calls Try.prog 13 #[.pointer (some ⟨D, 0, none⟩), .int .i64 n] w (NextN D n R w) := by
  refine (next_any D R n w h hn).mono ?_
  rintro e w1 ⟨rfl, hD1, hg1⟩
  obtain ⟨x1, x2⟩ := nextV_range R n h1
  exact ⟨(nextV R n).toNat, by rw [Int.toNat_of_nonneg x1], by omega, hD1, hg1⟩
theorem elems_held {D n p : Nat} {w w' : World} {e : Ending} (hD : D < w.heap.size) (h : ElemsP D n p w e w') :
    ∃ A c L R', e = .returned (.slice A L.length c) ∧ L.length = n ∧ (∀ x ∈ L, x < p) ∧ Held w' D A c L ∧ DiceAt w' D R' ∧ w.grownBy w' (some D) := by
  obtain ⟨v, L, R', rfl, hL, hp, hown, hd, hg⟩ := h
  obtain ⟨A, c, rfl, h1, h2, h3⟩ := own_sl hown rfl
  exact ⟨A, c, L, R', rfl, hL, hp, held_new hD h1 h2 h3, hd, hg⟩
set_option maxRecDepth 100000 in
set_option maxHeartbeats 2000000 in
theorem points_any (D : Nat) (R : List Int) (p most : Nat) (w : World) (hdi : DiceAt w D R) (hp : 1 ≤ p) (hp2 : p ≤ 2147483648) (hm : most ≤ 1000) :
    Calls Try.prog 24 #[.pointer (some ⟨D, 0, none⟩), .int .i64 p, .int .i64 most] w (PointsP D p most w) := by
  have hDlt := hdi.lt
  have hpi : (1 : Int) ≤ (p : Int) := by omega
  go_enter Try.func24, Try.ntmps24
  go_wp2_with fail
  all_goals
    refine (next_nat D R _ _ hdi (by omega) (by omega)).mono ?_
    rintro e w1 ⟨m, rfl, hm1, hD1, hg1⟩
    have hmm : m ≤ most := by omega
    clear hm1
    go_wp2_with fail
    go_loopw [8, 19] (fun l i wr => ∃ (k : Nat) (xs : List Nat) (R' : List Int), k ≤ m ∧ i = .int .i64 k ∧ xs.length ≤ k ∧ xs.Nodup ∧ (∀ x ∈ xs, x < p) ∧ wr.ownsRow w.heap.size 3 1 l xs.length (valsN xs) ∧ DiceAt wr D R' ∧ w.grownBy wr (some D)) (fun _ i _ => m - (intOf i).toNat)
    case atStart => exact ⟨0, [], _, by omega, rfl, Nat.le_refl _, List.nodup_nil, by simp, World.ownsRow_nil _ _ _ _, hD1, hg1⟩
    case round =>
      obtain ⟨k, xs, R', hk, rfl, hxl, hnd, hxp, hown, hD, hg⟩ := hrel
      have HND := Lib.hid hnd
      have HXP := Lib.hid hxp
      have hgs := hg.size
      clear hnd hxp hD1 hg1
      by_cases hlt : k < m
      · go_wp2_with fail
        refine (next_nat D R' _ _ hD hpi (by omega)).mono ?_
        rintro e w2 ⟨x, rfl, hx, hD2, hg2⟩
        have hob : ∀ b, _root_.Go.Value.ownBlock _ = some b → w.heap.size ≤ b := fun b hb => (hown.lt b hb).1
        have hown2 := hown.kept hg2 (.inr (fun e => by have := hob D e; omega))
        obtain ⟨A, cap, hv, hN, hS, hAb⟩ := own_sl hown2 rfl
        subst hv
        have hgw2 := grown_trans hg hg2
        have hgs2 := hgw2.size
        have HN := Lib.hid hN
        have hxn : x < p := by omega
        clear hg hg2 hD hown hN hS hAb
        go_wp2_with fail
        go_loop [10, 26] (fun tw j => ∃ k' : Nat, k' ≤ xs.length ∧ j = .int .i64 k' ∧ tw = .bool (decide (x ∈ xs.take k'))) (fun _ j => xs.length - (intOf j).toNat)
        case atStart => exact ⟨0, Nat.zero_le _, rfl, by simp⟩
        case round =>
          obtain ⟨j, hj, rfl, rfl⟩ := hrel
          by_cases hlt2 : j < xs.length
          · obtain ⟨b, off, rfl, hb, hc⟩ := HN.out j hlt2
            have HT := Lib.hid (twice_step (x := x) hlt2)
            have e1 : ((x : Int) == (nthN xs j : Int)) = decide (x = nthN xs j) := by rw [Bool.eq_iff_iff]; simp; omega
            generalize decide (x ∈ xs.take j) = tw at *
            generalize decide (x = nthN xs j) = eq at *
            cases tw
            · go_wp2_with fail
              go_round
              case rel => exact ⟨j + 1, by omega, by go_num, by rw [HT.out]; rfl⟩
              case measure => simp [intOf]; omega
            · go_wp2_with fail
              go_round
              case rel => exact ⟨j + 1, by omega, by go_num, by rw [HT.out]; rfl⟩
              case measure => simp [intOf]; omega
          · obtain rfl : j = xs.length := by omega
            rw [List.take_length]
            by_cases hin : x ∈ xs
            · have e1 : decide (x ∈ xs) = true := decide_eq_true hin
              rw [e1]
              clear e1 hin
              go_wp2_with fail
              go_roundw
              case rel => exact ⟨k + 1, xs, _, by omega, by go_num, by omega, HND.out, HXP.out, hown2, hD2, hgw2⟩
              case measure => simp [intOf]; omega
            · have e1 : decide (x ∈ xs) = false := decide_eq_false hin
              rw [e1]
              have HIN := Lib.hid hin
              clear e1 hin
              go_wp2_with (at_builtin; refine app_one rfl (.tmp 39) (.tmp 41) 22 rfl (base := w.heap.size) Try.underlying22 info_int rfl rfl hown2 rfl rfl (by simp only [maxLen]; omega) (by omega) hgs2 ?_; intro v4 w4 hown4 hg4 hb4)
              have hDl2 := hD2.lt
              have HH := Lib.hid (And.intro (hD2.keep (w' := w4) (fun j hj => hg4.block j (by omega) (fun e => by have := hob _ e.symm; omega))) (grown_app hgw2 hg4 (fun j e => hob j e)))
              go_roundw
              case rel =>
                refine ⟨k + 1, xs ++ [x], _, by omega, by go_num, by simp; omega, List.nodup_append.2 ⟨HND.out, by simp, fun a ha b hb e => by simp at hb; subst hb; exact HIN.out (e ▸ ha)⟩, fun y hy => ?_, ?_, HH.out.1, HH.out.2⟩
                · rcases List.mem_append.1 hy with hy | hy
                  · exact HXP.out y hy
                  · simp at hy; omega
                · simpa [valsN] using hown4
              case measure => simp [intOf]; omega
      · obtain ⟨A, cap, rfl, hN, hS, hAb⟩ := own_sl hown rfl
        have hDl := hD.lt
        have HX := Lib.hid (show Held wr D A cap xs from ⟨hN, hS, fun b off e => by have := hAb b off e; omega⟩)
        clear hown hN hS hAb
        go_wp2_with fail
        refine (elements_any D R' p xs.length _ hD hp hp2 (by omega)).mono ?_
        intro e w3 he
        obtain ⟨Y, cy, ys, R3, rfl, hyl, hyp, hY, hD3, hg3⟩ := elems_held hDl he
        have HYL := Lib.hid hyl
        have HYP := Lib.hid hyp
        clear hyl hyp he
        go_wp2_with fail
        go_ret2
        exact ⟨A, cap, xs, Y, cy, ys, R3, rfl, HND.out, HXP.out, HYP.out, HYL.out, by omega, HX.out.mv hg3, hY, hD3, grown_trans hg hg3⟩
end Go.Proofs.Ythbablmgpjjphaa
