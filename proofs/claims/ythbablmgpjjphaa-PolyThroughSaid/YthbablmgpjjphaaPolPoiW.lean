/-
  PolyPoints: the walk.
-/
import Derived.Test.YthbablmgpjjphaaPolActW
import Derived.Maps.AppendAt
namespace Go.Proofs.Ythbablmgpjjphaa
open Go.RowKit

attribute [local go_sem high] sliced_low

theorem app_nats_at {ops : Array Oper} {rest : List Oper} {o : Oper} {a : Act} {Q : Exit → Act → World → Prop} (hgd : o.guard = none) (s x : Operand)
    (ho : o.op = .call { callee := .builtin .append, args := #[s, x], argTypes := #[22, 22] })
    {base : Nat} {w : World} {v : Value} {S T : List Nat} {ad : Addr} {c : Nat} (hs : a.eval s = v) (hown : w.ownsRow base 3 1 v S.length (valsN S))
    (hx : a.eval x = .slice (some ad) T.length c) (hT : ∀ j u, (valsN T)[j]? = some u → w.cell? (ad.add j) = some u) (hl : S.length + T.length ≤ 4294967296) (hbase : base ≤ w.heap.size)
    (h : ∀ v' w', w'.ownsRow base 3 1 v' (S ++ T).length (valsN (S ++ T)) → w.grownBy w' v.ownBlock → Below base w w' → (v'.ownBlock = v.ownBlock ∨ v'.ownBlock = some w.heap.size) → wpList Try.prog ops Q rest (a.put o.dst v') w') :
    wpList Try.prog ops Q (o :: rest) a w := by
  obtain ⟨i0, hi, hz0, hz1, hz2⟩ := info_parts info_int
  refine wpList_append_own_at w hgd s x 22 ho base 3 i0 _ 1 8 Try.underlying22 hi hz0 hz1 hz2 rfl (by omega) v S.length (valsN S) hs hown _ T.length c (valsN T) hx (by simp [valsN]) hT (valsN_one T) (by unfold maxLen; omega) (by omega) hbase ?_
  intro v' w' h2 h3 _ h5
  refine h v' w' ?_ h3 ((Below.refl _ _).grown h3 hbase (fun k hk => (hown.lt k hk).1)) h5
  rw [List.length_append]; simpa [valsN] using h2
theorem own_mono_base {w : World} {base base' : Nat} {e : TypeId} {size : Nat} {v : Value} {n : Nat} {xs : List Value} (h : w.ownsRow base e size v n xs) (hb : base' ≤ base) : w.ownsRow base' e size v n xs := ownsRow_mono h hb
/-- Places and values in rows of their own. -/
def PointsO (D p most : Nat) (w : World) (e : Ending) (w' : World) : Prop :=
  ∃ X cx xs Y cy ys R', e = .returned (.tuple #[.slice X xs.length cx, .slice Y ys.length cy]) ∧ xs.Nodup ∧ (∀ x ∈ xs, x < p) ∧ (∀ y ∈ ys, y < p) ∧ ys.length = xs.length ∧ xs.length ≤ most ∧
    w'.ownsRow w.heap.size 3 1 (.slice X xs.length cx) xs.length (valsN xs) ∧ w'.ownsRow w.heap.size 3 1 (.slice Y ys.length cy) ys.length (valsN ys) ∧
    (∀ b, Value.ownBlock (.slice X xs.length cx) = some b → Value.ownBlock (.slice Y ys.length cy) = some b → False) ∧ DiceAt w' D R' ∧ w.grownBy w' (some D)
set_option maxRecDepth 100000 in
set_option maxHeartbeats 2000000 in
theorem points_own (D : Nat) (R : List Int) (p most : Nat) (w : World) (hdi : DiceAt w D R) (hp : 1 ≤ p) (hp2 : p ≤ 2147483648) (hm : most ≤ 1000) :
    Calls Try.prog 24 #[.pointer (some ⟨D, 0, none⟩), .int .i64 p, .int .i64 most] w (PointsO D p most w) := by
  have hDlt := hdi.lt
  have hpi : (1 : Int) ≤ (p : Int) := by omega
  go_enter Try.func24, Try.ntmps24
  go_wp2_with fail
  all_goals
    refine (next_nat D R _ _ hdi (by omega) (by omega)).mono ?_
    rintro e w1 ⟨m, rfl, hm1, hD1, hg1⟩
    have hmm : m ≤ most := by omega
    clear hm1
    go_wp2_with fail
    go_loopw [8, 19] (fun l i wr => ∃ (k : Nat) (xs : List Nat) (R' : List Int), k ≤ m ∧ i = .int .i64 k ∧ xs.length ≤ k ∧ xs.Nodup ∧ (∀ x ∈ xs, x < p) ∧ wr.ownsRow w.heap.size 3 1 l xs.length (valsN xs) ∧ DiceAt wr D R' ∧ w.grownBy wr (some D)) (fun _ i _ => m - (intOf i).toNat)
    case atStart => exact ⟨0, [], _, by omega, rfl, Nat.le_refl _, List.nodup_nil, by simp, World.ownsRow_nil _ _ _ _, hD1, hg1⟩
    case round =>
      obtain ⟨k, xs, R', hk, rfl, hxl, hnd, hxp, hown, hD, hg⟩ := hrel
      have HND := Lib.hid hnd
      have HXP := Lib.hid hxp
      have hgs := hg.size
      clear hnd hxp hD1 hg1
      by_cases hlt : k < m
      · go_wp2_with fail
        refine (next_nat D R' _ _ hD hpi (by omega)).mono ?_
        rintro e w2 ⟨x, rfl, hx, hD2, hg2⟩
        have hob : ∀ b, _root_.Go.Value.ownBlock _ = some b → w.heap.size ≤ b := fun b hb => (hown.lt b hb).1
        have hown2 := hown.kept hg2 (.inr (fun e => by have := hob D e; omega))
        obtain ⟨A, cap, hv, hN, hS, hAb⟩ := own_sl hown2 rfl
        subst hv
        have hgw2 := grown_trans hg hg2
        have hgs2 := hgw2.size
        have HN := Lib.hid hN
        have hxn : x < p := by omega
        clear hg hg2 hD hown hN hS hAb
        go_wp2_with fail
        go_loop [10, 26] (fun tw j => ∃ k' : Nat, k' ≤ xs.length ∧ j = .int .i64 k' ∧ tw = .bool (decide (x ∈ xs.take k'))) (fun _ j => xs.length - (intOf j).toNat)
        case atStart => exact ⟨0, Nat.zero_le _, rfl, by simp⟩
        case round =>
          obtain ⟨j, hj, rfl, rfl⟩ := hrel
          by_cases hlt2 : j < xs.length
          · obtain ⟨b, off, rfl, hb, hc⟩ := HN.out j hlt2
            have HT := Lib.hid (twice_step (x := x) hlt2)
            have e1 : ((x : Int) == (nthN xs j : Int)) = decide (x = nthN xs j) := by rw [Bool.eq_iff_iff]; simp; omega
            generalize decide (x ∈ xs.take j) = tw at *
            generalize decide (x = nthN xs j) = eq at *
            cases tw
            · go_wp2_with fail
              go_round
              case rel => exact ⟨j + 1, by omega, by go_num, by rw [HT.out]; rfl⟩
              case measure => simp [intOf]; omega
            · go_wp2_with fail
              go_round
              case rel => exact ⟨j + 1, by omega, by go_num, by rw [HT.out]; rfl⟩
              case measure => simp [intOf]; omega
          · obtain rfl : j = xs.length := by omega
            rw [List.take_length]
            by_cases hin : x ∈ xs
            · have e1 : decide (x ∈ xs) = true := decide_eq_true hin
              rw [e1]
              clear e1 hin
              go_wp2_with fail
              go_roundw
              case rel => exact ⟨k + 1, xs, _, by omega, by go_num, by omega, HND.out, HXP.out, hown2, hD2, hgw2⟩
              case measure => simp [intOf]; omega
            · have e1 : decide (x ∈ xs) = false := decide_eq_false hin
              rw [e1]
              have HIN := Lib.hid hin
              clear e1 hin
              go_wp2_with (at_builtin; refine app_one rfl (.tmp 39) (.tmp 41) 22 rfl (base := w.heap.size) Try.underlying22 info_int rfl rfl hown2 rfl rfl (by simp only [maxLen]; omega) (by omega) hgs2 ?_; intro v4 w4 hown4 hg4 hb4)
              have hDl2 := hD2.lt
              have HH := Lib.hid (And.intro (hD2.keep (w' := w4) (fun j hj => hg4.block j (by omega) (fun e => by have := hob _ e.symm; omega))) (grown_app hgw2 hg4 (fun j e => hob j e)))
              go_roundw
              case rel =>
                refine ⟨k + 1, xs ++ [x], _, by omega, by go_num, by simp; omega, List.nodup_append.2 ⟨HND.out, by simp, fun a ha b hb e => by simp at hb; subst hb; exact HIN.out (e ▸ ha)⟩, fun y hy => ?_, ?_, HH.out.1, HH.out.2⟩
                · rcases List.mem_append.1 hy with hy | hy
                  · exact HXP.out y hy
                  · simp at hy; omega
                · simpa [valsN] using hown4
              case measure => simp [intOf]; omega
      · have hDl := hD.lt
        obtain ⟨A, cap, rfl⟩ : ∃ A c, _ = Value.slice A xs.length c := by obtain ⟨A, c, h, -⟩ := own_sl hown rfl; exact ⟨A, c, h⟩
        have hob : ∀ b, _root_.Go.Value.ownBlock _ = some b → w.heap.size ≤ b := fun b hb => (hown.lt b hb).1
        have HX := Lib.hid hown
        clear hown
        go_wp2_with fail
        refine (elements_any D R' p xs.length _ hD hp hp2 (by omega)).mono ?_
        rintro e w3 ⟨v3, ys, R3, rfl, hyl, hyp, hY, hD3, hg3⟩
        obtain ⟨Y, cy, rfl⟩ : ∃ A c, _ = Value.slice A ys.length c := by obtain ⟨A, c, h, -⟩ := own_sl hY rfl; exact ⟨A, c, h⟩
        have HYL := Lib.hid hyl
        have HYP := Lib.hid hyp
        have hX3 := HX.out.kept hg3 (.inr (fun e => by have := hob D e; omega))
        have hne : ∀ b, Value.ownBlock (.slice A xs.length cap) = some b → Value.ownBlock (.slice Y ys.length cy) = some b → False := fun b e1 e2 => by
          have h1 := (HX.out.lt b e1).2
          have h2 := (hY.lt b e2).1
          omega
        have HNE := Lib.hid hne
        clear hyl hyp hne
        go_wp2_with fail
        go_ret2
        exact ⟨A, cap, xs, Y, cy, ys, R3, rfl, HND.out, HXP.out, HYP.out, HYL.out, by omega, hX3, own_mono_base hY hgs, HNE.out, hD3, grown_trans hg hg3⟩

theorem wsR_len (p : Nat) (xs : List Nat) (x : Nat) : (wsR p xs x).length ≤ xs.length := by
  unfold wsR; split
  · rw [wsN_len]; exact Nat.le_refl _
  · exact Nat.zero_le _
theorem thR_len (p : Nat) (xs ys : List Nat) : (thR p xs ys).length ≤ xs.length := by
  unfold thR; split
  · exact thN_len p xs ys
  · exact Nat.zero_le _

set_option maxRecDepth 100000 in
set_option maxHeartbeats 4000000 in
theorem polyPoints_walk (A0 : Option Addr) (L0 : List Int) (c0 : Nat) (w : World) (hl0 : L0.length ≤ maxLen) (hI0 : IntsAt w A0 L0) (_ : ∀ n ∈ L0, -9223372036854775808 ≤ n ∧ n ≤ 9223372036854775807) :
    Calls Try.prog 6 #[.slice A0 L0.length c0] w (RetB (.bool true) w) := by
  by_cases hlight : (L0.length : Int) ≤ 500
  · have hL := light_any A0 L0.length c0 w
    rw [decide_eq_true hlight] at hL
    have HLt := Lib.hid hL
    clear hL hlight
    go_enter Try.func6, Try.ntmps6
    go_wp2_with fail
    refine ret_pure HLt.out ?_
    clear HLt
    go_wp2_with fail
    refine (roll_any A0 L0 c0 _ hl0 hI0).mono ?_
    rintro e w1 ⟨D, rfl, hDs, hD, hb1⟩
    have hE1 : Env w w1 D L0 := ⟨hD, hDs, hb1⟩
    clear hI0 hD hDs hb1
    go_wp2_with fail
    refine (prime_any D L0 _ hE1.dice).mono ?_
    rintro e w2 ⟨p, rfl, hpp, hp5, -, hD2, hg2⟩
    have hE2 := hE1.next hD2 hg2
    have h2 := hpp.1
    have h1 : 1 ≤ p := by omega
    have hp2 : p ≤ 2147483648 := by omega
    have HPP := Lib.hid hpp
    clear hg2 hD2 hE1 hpp
    go_wp2_with fail
    refine (points_own D _ p 6 _ hE2.dice h1 hp2 (by omega)).mono ?_
    rintro e w3 ⟨X, cx, xs, Y, cy, ys, R3, rfl, -, hxp, hyp, hyl, hxl, hXo, hYo, hne, hD3, hg3⟩
    have hE3 := hE2.next hD3 hg3
    have HXP0 := Lib.hid hxp
    have HYP0 := Lib.hid hyp
    have hyl6 : ys.length ≤ 6 := by omega
    have hxo : ∀ b, Value.ownBlock (.slice X xs.length cx) = some b → w2.heap.size ≤ b := fun b hb => (hXo.lt b hb).1
    have hyo : ∀ b, Value.ownBlock (.slice Y ys.length cy) = some b → w2.heap.size ≤ b := fun b hb => (hYo.lt b hb).1
    have hD2 := hE2.lt
    have hs3 := hg3.size
    clear hD3 hg3 hE2 hxp hyp hyl
    go_wp2_with fail
    refine (next_nat D _ 8 _ hE3.dice (by omega) (by omega)).mono ?_
    rintro e w4 ⟨m, rfl, hm, hD4, hg4⟩
    have hE4 := hE3.next hD4 hg4
    have hXo4 := hXo.kept hg4 (.inr (fun e => by have := hxo D e; omega))
    have hYo4 := hYo.kept hg4 (.inr (fun e => by have := hyo D e; omega))
    have hs4 := hg4.size
    have HNE := Lib.hid hne
    have HYO := Lib.hid hyo
    clear hD4 hg4 hE3 hXo hYo hne hxo hyo
    by_cases hm1 : m = 1
    · have t1 : ((m : Int) == 1) = true := by simp; omega
      have t2 : ((m : Int) == 2) = false := beq_eq_false_iff_ne.2 (by omega)
      clear hm1 hm
      go_wp2_with (at_builtin; refine app_nats rfl (.tmp 38) (.tmp 39) rfl (base := w2.heap.size) (S := ys) (T := [0]) rfl (hYo4.alloc _) rfl ((lit1_nats w4 0).nats.news rfl) (by simp; omega) (by simp; omega) ?_; intro v5 w5 hY5 hg5' hb5')
      have hb5 : Below w2.heap.size w4 w5 := below_of_alloc hb5' (by omega)
      have hE5 := hE4.app (by omega) hb5
      have hX5 := (hXo4.alloc _).kept hg5' (by rcases hx : Value.ownBlock (.slice X xs.length cx) with _ | b; exact .inl rfl; exact .inr (fun e => HNE.out b hx e.symm))
      obtain ⟨_, _, hv, hXH⟩ := own_held hX5 hD2
      injection hv with hv1 _ hv3
      subst hv1; subst hv3
      obtain ⟨Y, cy, rfl, hYH⟩ := own_held hY5 hD2
      have HX5 := Lib.hid hXH
      have HY5 := Lib.hid hYH
      have HXP := HXP0
      have HYP := Lib.hid (app_lt HYP0.out (show ∀ x ∈ [0], x < p by simp; omega))
      have hyl7 : (ys ++ [0]).length ≤ 7 := by simp; omega
      have hxl7 : xs.length ≤ 7 := by omega
      clear hb5' hg5' hY5 hX5 hXo4 hYo4 hE4 hb5 HNE HYO HYP0 HXP0 hXH hYH
      generalize ys ++ [0] = ys at *
      go_wp2_with fail
      go_loopw [55] (fun i wr => ∃ (k : Nat) (R : List Int), k ≤ 3 ∧ i = .int .i64 k ∧ Env w wr D R ∧ w5.grownBy wr (some D)) (fun i _ => 3 - (intOf i).toNat)
      case atStart => exact ⟨0, _, by omega, rfl, hE5, World.grownBy.refl _ _⟩
      case round =>
        obtain ⟨k, R5, hk, rfl, hEr, hgr⟩ := hrel
        have HXr := Lib.hid (HX5.out.mv hgr)
        have HYr := Lib.hid (HY5.out.mv hgr)
        clear hE5
        by_cases hlt : k < 3
        · go_wp2_with fail
          refine (next_nat D _ p _ hEr.dice (by omega) (by omega)).mono ?_
          rintro e w6 ⟨x, rfl, hx, hD6, hg6⟩
          have hE6 := hEr.next hD6 hg6
          have hg56 := grown_trans hgr hg6
          have HX6 := Lib.hid (HXr.out.mv hg6)
          have HY6 := Lib.hid (HYr.out.mv hg6)
          have hxp : x < p := by omega
          clear hD6 hg6 hEr hgr HXr HYr hx
          go_wp2_with fail
          refine (weights_any p X xs cx x _ h2 hp2 HX6.out.nats HXP.out (by omega) hxp).mono ?_
          rintro e w7 ⟨WA, wc, rfl, hWn, -, -, hb7⟩
          have HW := Lib.hid hWn
          clear hWn
          go_wp2_with fail
          refine (refWeights_any p X xs cx x _ HPP.out hp2 (HX6.out.nats.below hb7) HX6.out.ok HXP.out (by omega) hxp).mono ?_
          rintro e w8 ⟨VA, vc, rfl, hVn, -, -, hb8⟩
          have HV := Lib.hid hVn
          have HW8 := Lib.hid (HW.out.below hb8)
          have hc8 := below_trans hb7 hb8
          have hwl := wsR_len p xs x
          clear hVn HW hb7 hb8
          generalize wsR p xs x = W at *
          generalize ckE xs = ec at *
          go_wp2_with fail
          refine ret_below (interpolate_any p X Y xs ys cx cy x _ h2 hp2 (HX6.out.nats.below hc8) (HY6.out.nats.below hc8) HXP.out HYP.out (by omega) hxp) ?_
          intro w9 hb9
          have hc9 := below_trans hc8 hb9
          go_wp2_with fail
          refine ret_below (refInterpolate_any p X Y xs ys cx cy x _ HPP.out hp2 (HX6.out.nats.below hc9) HX6.out.ok (HY6.out.nats.below hc9) HXP.out HYP.out (by omega) (by omega) hxp) ?_
          intro w10 hb10
          have hc10 := below_trans hc9 hb10
          have HW10 := Lib.hid ((HW8.out.below hb9).below hb10)
          have HV10 := Lib.hid ((HV.out.below hb9).below hb10)
          clear HW8 HV hb9 hb10 hc9 hc8
          generalize itV p xs ys x = iv at *
          generalize itE xs ys = ie at *
          go_wp2_with fail
          refine ret_pure (same_nats WA VA W wc vc _ HW10.out HV10.out (by omega)) ?_
          have hE10 := hE6.mv hc10
          have hg510 := grown_trans hg56 (grown_of_below hc10)
          clear hE6 hg56 hc10
          go_wp2_with fail
          go_roundw
          case rel => exact ⟨k + 1, _, by omega, by go_num, hE10, hg510⟩
          case measure => simp [intOf]; omega
        · have hthl := thR_len p xs ys
          go_wp2_with fail
          refine (through_any p X Y xs ys cx cy _ h2 hp2 HXr.out.nats HYr.out.nats HXP.out HYP.out (by omega)).mono ?_
          rintro e w6 ⟨TA, tc, rfl, hTn, -, -, hb6⟩
          have HT := Lib.hid hTn
          clear hTn
          go_wp2_with fail
          refine (refThrough_any p X Y xs ys cx cy _ HPP.out hp2 (HXr.out.nats.below hb6) HXr.out.ok (HYr.out.nats.below hb6) HXP.out HYP.out (by omega)).mono ?_
          rintro e w7 ⟨SA, sc, rfl, hSn, -, -, hb7⟩
          have HS := Lib.hid hSn
          have HT7 := Lib.hid (HT.out.below hb7)
          have hE7 := hEr.mv (below_trans hb6 hb7)
          clear hSn HT hEr
          generalize thR p xs ys = T at *
          generalize itE xs ys = ie at *
          go_wp2_with fail
          refine ret_pure (same_nats TA SA T tc sc _ HT7.out HS.out (by omega)) ?_
          go_wp2_with fail
          refine ret_below (awake_any _) ?_
          intro w8 hb8
          have hbf := below_trans hE7.below hb8
          go_wp2_with fail
          go_ret
          exact RetB.bool rfl hbf
    · by_cases hm2 : m = 2
      · have t1 : ((m : Int) == 1) = false := beq_eq_false_iff_ne.2 (by omega)
        have t2 : ((m : Int) == 2) = true := by simp; omega
        clear hm1 hm2 hm
        by_cases hx0 : 0 < xs.length
        · have t3 : decide (0 < (xs.length : Int)) = true := decide_eq_true (by omega)
          have t4 : ((0 : Int) < (xs.length : Int)) := by omega
          obtain ⟨_, _, hv, hXn⟩ := own_held hXo4 hD2
          injection hv with hv1 _ hv3
          subst hv1; subst hv3
          obtain ⟨bX, oX, rfl, hbX, hcX⟩ := hXn.nats 0 hx0
          have hx0p := nthN_lt h1 HXP0.out 0
          rw [Nat.add_zero] at hcX
          clear hXn
          go_wp2_with (first
            | (at_builtin; refine app_nats_at rfl (.tmp 46) (.tmp 50) rfl (base := w2.heap.size) (S := xs) (T := [nthN xs 0]) (v := .slice (some ⟨bX, oX, none⟩) xs.length cx) rfl (hXo4.alloc _) rfl ((lit1_nats w4 (nthN xs 0)).nats.news rfl) (by simp; omega) (by simp; omega) ?_; intro v5 w5 hX5 hg5' hb5' hv5; have hs5 := hg5'.size; have hY5 := (hYo4.alloc _).kept hg5' (by rcases hy : Value.ownBlock (.slice Y ys.length cy) with _ | b; exact .inl rfl; exact .inr (fun e => HNE.out b e.symm hy)); have hvn : v5.ownBlock = none ∨ v5.ownBlock ≠ Value.ownBlock (.slice Y ys.length cy) := by (rcases hv5 with e | e; (rcases hx : Value.ownBlock (.slice (some ⟨bX, oX, none⟩) xs.length cx) with _ | b; exact .inl (e.trans hx); exact .inr (fun e' => HNE.out b hx (by rw [← e', e, hx]))); exact .inr (fun e' => by have := (hYo4.lt _ (e'.symm.trans e)).2; simp at this; omega)))
            | (at_builtin; refine app_nats_at rfl (.tmp 52) (.tmp 53) rfl (base := w2.heap.size) (S := ys) (T := [0]) (v := .slice Y ys.length cy) rfl (hY5.alloc _) rfl ((lit1_nats w5 0).nats.news rfl) (by simp; omega) (by simp at hs5 ⊢; omega) ?_; intro v6 w6 hY6 hg6' hb6' _))
          have hb5 : Below w2.heap.size w4 w5 := below_of_alloc hb5' (by omega)
          have hb6 : Below w2.heap.size w5 w6 := below_of_alloc hb6' (by simp at hs5 ⊢; omega)
          have hE5 := hE4.app (by omega) (hb5.trans hb6)
          obtain ⟨X, cx, rfl, hXH⟩ := own_held ((hX5.alloc _).kept hg6' hvn) hD2
          obtain ⟨Y, cy, rfl, hYH⟩ := own_held hY6 hD2
          have HX5 := Lib.hid hXH
          have HY5 := Lib.hid hYH
          have HXP := Lib.hid (app_lt HXP0.out (show ∀ x ∈ [nthN xs 0], x < p by simp; omega))
          have HYP := Lib.hid (app_lt HYP0.out (show ∀ x ∈ [0], x < p by simp; omega))
          have hyl7 : (ys ++ [0]).length ≤ 7 := by simp; omega
          have hxl7 : (xs ++ [nthN xs 0]).length ≤ 7 := by simp; omega
          clear hb5' hg5' hY5 hX5 hXo4 hYo4 hE4 hb5 HNE HYO HYP0 HXP0 hXH hYH hb6' hb6 hg6' hvn hv5 hY6 hcX hx0p hx0 t3 t4
          generalize ys ++ [0] = ys at *
          generalize xs ++ [nthN xs 0] = xs at *
          clear hs5
          obtain ⟨w5, rfl⟩ : ∃ wo : World, wo = w6 := ⟨_, rfl⟩
          go_wp2_with fail
          go_loopw [55] (fun i wr => ∃ (k : Nat) (R : List Int), k ≤ 3 ∧ i = .int .i64 k ∧ Env w wr D R ∧ w5.grownBy wr (some D)) (fun i _ => 3 - (intOf i).toNat)
          case atStart => exact ⟨0, _, by omega, rfl, hE5, World.grownBy.refl _ _⟩
          case round =>
            obtain ⟨k, R5, hk, rfl, hEr, hgr⟩ := hrel
            have HXr := Lib.hid (HX5.out.mv hgr)
            have HYr := Lib.hid (HY5.out.mv hgr)
            clear hE5
            by_cases hlt : k < 3
            · go_wp2_with fail
              refine (next_nat D _ p _ hEr.dice (by omega) (by omega)).mono ?_
              rintro e w6 ⟨x, rfl, hx, hD6, hg6⟩
              have hE6 := hEr.next hD6 hg6
              have hg56 := grown_trans hgr hg6
              have HX6 := Lib.hid (HXr.out.mv hg6)
              have HY6 := Lib.hid (HYr.out.mv hg6)
              have hxp : x < p := by omega
              clear hD6 hg6 hEr hgr HXr HYr hx
              go_wp2_with fail
              refine (weights_any p X xs cx x _ h2 hp2 HX6.out.nats HXP.out (by omega) hxp).mono ?_
              rintro e w7 ⟨WA, wc, rfl, hWn, -, -, hb7⟩
              have HW := Lib.hid hWn
              clear hWn
              go_wp2_with fail
              refine (refWeights_any p X xs cx x _ HPP.out hp2 (HX6.out.nats.below hb7) HX6.out.ok HXP.out (by omega) hxp).mono ?_
              rintro e w8 ⟨VA, vc, rfl, hVn, -, -, hb8⟩
              have HV := Lib.hid hVn
              have HW8 := Lib.hid (HW.out.below hb8)
              have hc8 := below_trans hb7 hb8
              have hwl := wsR_len p xs x
              clear hVn HW hb7 hb8
              generalize wsR p xs x = W at *
              generalize ckE xs = ec at *
              go_wp2_with fail
              refine ret_below (interpolate_any p X Y xs ys cx cy x _ h2 hp2 (HX6.out.nats.below hc8) (HY6.out.nats.below hc8) HXP.out HYP.out (by omega) hxp) ?_
              intro w9 hb9
              have hc9 := below_trans hc8 hb9
              go_wp2_with fail
              refine ret_below (refInterpolate_any p X Y xs ys cx cy x _ HPP.out hp2 (HX6.out.nats.below hc9) HX6.out.ok (HY6.out.nats.below hc9) HXP.out HYP.out (by omega) (by omega) hxp) ?_
              intro w10 hb10
              have hc10 := below_trans hc9 hb10
              have HW10 := Lib.hid ((HW8.out.below hb9).below hb10)
              have HV10 := Lib.hid ((HV.out.below hb9).below hb10)
              clear HW8 HV hb9 hb10 hc9 hc8
              generalize itV p xs ys x = iv at *
              generalize itE xs ys = ie at *
              go_wp2_with fail
              refine ret_pure (same_nats WA VA W wc vc _ HW10.out HV10.out (by omega)) ?_
              have hE10 := hE6.mv hc10
              have hg510 := grown_trans hg56 (grown_of_below hc10)
              clear hE6 hg56 hc10
              go_wp2_with fail
              go_roundw
              case rel => exact ⟨k + 1, _, by omega, by go_num, hE10, hg510⟩
              case measure => simp [intOf]; omega
            · have hthl := thR_len p xs ys
              go_wp2_with fail
              refine (through_any p X Y xs ys cx cy _ h2 hp2 HXr.out.nats HYr.out.nats HXP.out HYP.out (by omega)).mono ?_
              rintro e w6 ⟨TA, tc, rfl, hTn, -, -, hb6⟩
              have HT := Lib.hid hTn
              clear hTn
              go_wp2_with fail
              refine (refThrough_any p X Y xs ys cx cy _ HPP.out hp2 (HXr.out.nats.below hb6) HXr.out.ok (HYr.out.nats.below hb6) HXP.out HYP.out (by omega)).mono ?_
              rintro e w7 ⟨SA, sc, rfl, hSn, -, -, hb7⟩
              have HS := Lib.hid hSn
              have HT7 := Lib.hid (HT.out.below hb7)
              have hE7 := hEr.mv (below_trans hb6 hb7)
              clear hSn HT hEr
              generalize thR p xs ys = T at *
              generalize itE xs ys = ie at *
              go_wp2_with fail
              refine ret_pure (same_nats TA SA T tc sc _ HT7.out HS.out (by omega)) ?_
              go_wp2_with fail
              refine ret_below (awake_any _) ?_
              intro w8 hb8
              have hbf := below_trans hE7.below hb8
              go_wp2_with fail
              go_ret
              exact RetB.bool rfl hbf

        · have t3 : decide (0 < (xs.length : Int)) = false := decide_eq_false (by omega)
          obtain ⟨_, _, hv, hXH⟩ := own_held hXo4 hD2
          injection hv with hv1 _ hv3
          subst hv1; subst hv3
          obtain ⟨_, _, hv, hYH⟩ := own_held hYo4 hD2
          injection hv with hv1 _ hv3
          subst hv1; subst hv3
          have hE5 := hE4
          have HX5 := Lib.hid hXH
          have HY5 := Lib.hid hYH
          have HXP := HXP0
          have HYP := HYP0
          have hyl7 : ys.length ≤ 7 := by omega
          have hxl7 : xs.length ≤ 7 := by omega
          clear hXo4 hYo4 hE4 HNE HYO HYP0 HXP0 hXH hYH
          obtain ⟨w5, rfl⟩ : ∃ wo : World, wo = w4 := ⟨_, rfl⟩
          go_wp2_with fail
          go_loopw [55] (fun i wr => ∃ (k : Nat) (R : List Int), k ≤ 3 ∧ i = .int .i64 k ∧ Env w wr D R ∧ w5.grownBy wr (some D)) (fun i _ => 3 - (intOf i).toNat)
          case atStart => exact ⟨0, _, by omega, rfl, hE5, World.grownBy.refl _ _⟩
          case round =>
            obtain ⟨k, R5, hk, rfl, hEr, hgr⟩ := hrel
            have HXr := Lib.hid (HX5.out.mv hgr)
            have HYr := Lib.hid (HY5.out.mv hgr)
            clear hE5
            by_cases hlt : k < 3
            · go_wp2_with fail
              refine (next_nat D _ p _ hEr.dice (by omega) (by omega)).mono ?_
              rintro e w6 ⟨x, rfl, hx, hD6, hg6⟩
              have hE6 := hEr.next hD6 hg6
              have hg56 := grown_trans hgr hg6
              have HX6 := Lib.hid (HXr.out.mv hg6)
              have HY6 := Lib.hid (HYr.out.mv hg6)
              have hxp : x < p := by omega
              clear hD6 hg6 hEr hgr HXr HYr hx
              go_wp2_with fail
              refine (weights_any p X xs cx x _ h2 hp2 HX6.out.nats HXP.out (by omega) hxp).mono ?_
              rintro e w7 ⟨WA, wc, rfl, hWn, -, -, hb7⟩
              have HW := Lib.hid hWn
              clear hWn
              go_wp2_with fail
              refine (refWeights_any p X xs cx x _ HPP.out hp2 (HX6.out.nats.below hb7) HX6.out.ok HXP.out (by omega) hxp).mono ?_
              rintro e w8 ⟨VA, vc, rfl, hVn, -, -, hb8⟩
              have HV := Lib.hid hVn
              have HW8 := Lib.hid (HW.out.below hb8)
              have hc8 := below_trans hb7 hb8
              have hwl := wsR_len p xs x
              clear hVn HW hb7 hb8
              generalize wsR p xs x = W at *
              generalize ckE xs = ec at *
              go_wp2_with fail
              refine ret_below (interpolate_any p X Y xs ys cx cy x _ h2 hp2 (HX6.out.nats.below hc8) (HY6.out.nats.below hc8) HXP.out HYP.out (by omega) hxp) ?_
              intro w9 hb9
              have hc9 := below_trans hc8 hb9
              go_wp2_with fail
              refine ret_below (refInterpolate_any p X Y xs ys cx cy x _ HPP.out hp2 (HX6.out.nats.below hc9) HX6.out.ok (HY6.out.nats.below hc9) HXP.out HYP.out (by omega) (by omega) hxp) ?_
              intro w10 hb10
              have hc10 := below_trans hc9 hb10
              have HW10 := Lib.hid ((HW8.out.below hb9).below hb10)
              have HV10 := Lib.hid ((HV.out.below hb9).below hb10)
              clear HW8 HV hb9 hb10 hc9 hc8
              generalize itV p xs ys x = iv at *
              generalize itE xs ys = ie at *
              go_wp2_with fail
              refine ret_pure (same_nats WA VA W wc vc _ HW10.out HV10.out (by omega)) ?_
              have hE10 := hE6.mv hc10
              have hg510 := grown_trans hg56 (grown_of_below hc10)
              clear hE6 hg56 hc10
              go_wp2_with fail
              go_roundw
              case rel => exact ⟨k + 1, _, by omega, by go_num, hE10, hg510⟩
              case measure => simp [intOf]; omega
            · have hthl := thR_len p xs ys
              go_wp2_with fail
              refine (through_any p X Y xs ys cx cy _ h2 hp2 HXr.out.nats HYr.out.nats HXP.out HYP.out (by omega)).mono ?_
              rintro e w6 ⟨TA, tc, rfl, hTn, -, -, hb6⟩
              have HT := Lib.hid hTn
              clear hTn
              go_wp2_with fail
              refine (refThrough_any p X Y xs ys cx cy _ HPP.out hp2 (HXr.out.nats.below hb6) HXr.out.ok (HYr.out.nats.below hb6) HXP.out HYP.out (by omega)).mono ?_
              rintro e w7 ⟨SA, sc, rfl, hSn, -, -, hb7⟩
              have HS := Lib.hid hSn
              have HT7 := Lib.hid (HT.out.below hb7)
              have hE7 := hEr.mv (below_trans hb6 hb7)
              clear hSn HT hEr
              generalize thR p xs ys = T at *
              generalize itE xs ys = ie at *
              go_wp2_with fail
              refine ret_pure (same_nats TA SA T tc sc _ HT7.out HS.out (by omega)) ?_
              go_wp2_with fail
              refine ret_below (awake_any _) ?_
              intro w8 hb8
              have hbf := below_trans hE7.below hb8
              go_wp2_with fail
              go_ret
              exact RetB.bool rfl hbf

      · have t1 : ((m : Int) == 1) = false := beq_eq_false_iff_ne.2 (by omega)
        have t2 : ((m : Int) == 2) = false := beq_eq_false_iff_ne.2 (by omega)
        clear hm1 hm2 hm
        obtain ⟨_, _, hv, hXH⟩ := own_held hXo4 hD2
        injection hv with hv1 _ hv3
        subst hv1; subst hv3
        obtain ⟨_, _, hv, hYH⟩ := own_held hYo4 hD2
        injection hv with hv1 _ hv3
        subst hv1; subst hv3
        have hE5 := hE4
        have HX5 := Lib.hid hXH
        have HY5 := Lib.hid hYH
        have HXP := HXP0
        have HYP := HYP0
        have hyl7 : ys.length ≤ 7 := by omega
        have hxl7 : xs.length ≤ 7 := by omega
        clear hXo4 hYo4 hE4 HNE HYO HYP0 HXP0 hXH hYH
        obtain ⟨w5, rfl⟩ : ∃ wo : World, wo = w4 := ⟨_, rfl⟩
        go_wp2_with fail
        go_loopw [55] (fun i wr => ∃ (k : Nat) (R : List Int), k ≤ 3 ∧ i = .int .i64 k ∧ Env w wr D R ∧ w5.grownBy wr (some D)) (fun i _ => 3 - (intOf i).toNat)
        case atStart => exact ⟨0, _, by omega, rfl, hE5, World.grownBy.refl _ _⟩
        case round =>
          obtain ⟨k, R5, hk, rfl, hEr, hgr⟩ := hrel
          have HXr := Lib.hid (HX5.out.mv hgr)
          have HYr := Lib.hid (HY5.out.mv hgr)
          clear hE5
          by_cases hlt : k < 3
          · go_wp2_with fail
            refine (next_nat D _ p _ hEr.dice (by omega) (by omega)).mono ?_
            rintro e w6 ⟨x, rfl, hx, hD6, hg6⟩
            have hE6 := hEr.next hD6 hg6
            have hg56 := grown_trans hgr hg6
            have HX6 := Lib.hid (HXr.out.mv hg6)
            have HY6 := Lib.hid (HYr.out.mv hg6)
            have hxp : x < p := by omega
            clear hD6 hg6 hEr hgr HXr HYr hx
            go_wp2_with fail
            refine (weights_any p X xs cx x _ h2 hp2 HX6.out.nats HXP.out (by omega) hxp).mono ?_
            rintro e w7 ⟨WA, wc, rfl, hWn, -, -, hb7⟩
            have HW := Lib.hid hWn
            clear hWn
            go_wp2_with fail
            refine (refWeights_any p X xs cx x _ HPP.out hp2 (HX6.out.nats.below hb7) HX6.out.ok HXP.out (by omega) hxp).mono ?_
            rintro e w8 ⟨VA, vc, rfl, hVn, -, -, hb8⟩
            have HV := Lib.hid hVn
            have HW8 := Lib.hid (HW.out.below hb8)
            have hc8 := below_trans hb7 hb8
            have hwl := wsR_len p xs x
            clear hVn HW hb7 hb8
            generalize wsR p xs x = W at *
            generalize ckE xs = ec at *
            go_wp2_with fail
            refine ret_below (interpolate_any p X Y xs ys cx cy x _ h2 hp2 (HX6.out.nats.below hc8) (HY6.out.nats.below hc8) HXP.out HYP.out (by omega) hxp) ?_
            intro w9 hb9
            have hc9 := below_trans hc8 hb9
            go_wp2_with fail
            refine ret_below (refInterpolate_any p X Y xs ys cx cy x _ HPP.out hp2 (HX6.out.nats.below hc9) HX6.out.ok (HY6.out.nats.below hc9) HXP.out HYP.out (by omega) (by omega) hxp) ?_
            intro w10 hb10
            have hc10 := below_trans hc9 hb10
            have HW10 := Lib.hid ((HW8.out.below hb9).below hb10)
            have HV10 := Lib.hid ((HV.out.below hb9).below hb10)
            clear HW8 HV hb9 hb10 hc9 hc8
            generalize itV p xs ys x = iv at *
            generalize itE xs ys = ie at *
            go_wp2_with fail
            refine ret_pure (same_nats WA VA W wc vc _ HW10.out HV10.out (by omega)) ?_
            have hE10 := hE6.mv hc10
            have hg510 := grown_trans hg56 (grown_of_below hc10)
            clear hE6 hg56 hc10
            go_wp2_with fail
            go_roundw
            case rel => exact ⟨k + 1, _, by omega, by go_num, hE10, hg510⟩
            case measure => simp [intOf]; omega
          · have hthl := thR_len p xs ys
            go_wp2_with fail
            refine (through_any p X Y xs ys cx cy _ h2 hp2 HXr.out.nats HYr.out.nats HXP.out HYP.out (by omega)).mono ?_
            rintro e w6 ⟨TA, tc, rfl, hTn, -, -, hb6⟩
            have HT := Lib.hid hTn
            clear hTn
            go_wp2_with fail
            refine (refThrough_any p X Y xs ys cx cy _ HPP.out hp2 (HXr.out.nats.below hb6) HXr.out.ok (HYr.out.nats.below hb6) HXP.out HYP.out (by omega)).mono ?_
            rintro e w7 ⟨SA, sc, rfl, hSn, -, -, hb7⟩
            have HS := Lib.hid hSn
            have HT7 := Lib.hid (HT.out.below hb7)
            have hE7 := hEr.mv (below_trans hb6 hb7)
            clear hSn HT hEr
            generalize thR p xs ys = T at *
            generalize itE xs ys = ie at *
            go_wp2_with fail
            refine ret_pure (same_nats TA SA T tc sc _ HT7.out HS.out (by omega)) ?_
            go_wp2_with fail
            refine ret_below (awake_any _) ?_
            intro w8 hb8
            have hbf := below_trans hE7.below hb8
            go_wp2_with fail
            go_ret
            exact RetB.bool rfl hbf
  · have hL := light_any A0 L0.length c0 w
    rw [decide_eq_false hlight] at hL
    have HLt := Lib.hid hL
    clear hL
    go_enter Try.func6, Try.ntmps6
    go_wp2_with fail
    refine ret_pure HLt.out ?_
    go_wp2_with fail
    refine ret_below (awake_any _) ?_
    intro w1 hb1
    go_wp2
    go_ret
    exact RetB.bool rfl hb1
end Go.Proofs.Ythbablmgpjjphaa
