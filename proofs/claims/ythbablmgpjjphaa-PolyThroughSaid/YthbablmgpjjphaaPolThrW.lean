/-
  PolyThrough: the walk.
-/
import Derived.Test.YthbablmgpjjphaaPolPoiW
namespace Go.Proofs.Ythbablmgpjjphaa
open Go.RowKit

attribute [local go_sem high] sliced_low

theorem last_at {L : List Nat} {n : Nat} (h : 0 < L.length) (hn : n = L.length - 1) (g : 0 < L.length → nthN L (L.length - 1) ≠ 0) : nthN L n ≠ 0 := by subst hn; exact g h
theorem thN_top {p : Nat} {xs ys : List Nat} (h : 0 < (thN p xs ys).length) : nthN (thN p xs ys) ((thN p xs ys).length - 1) ≠ 0 := by
  have := shN_last (L := thN p xs ys) (by rw [thN_short]; exact h)
  rw [thN_short] at this; exact this
/-- The values of a polynomial at places. -/
def evsN (p : Nat) (M xs : List Nat) : List Nat := xs.map fun x => evN p M x
theorem evsN_len (p : Nat) (M xs : List Nat) : (evsN p M xs).length = xs.length := by simp [evsN]
theorem evsN_nth (p : Nat) (M xs : List Nat) {k : Nat} (h : k < xs.length) : nthN (evsN p M xs) k = evN p M (nthN xs k) := by
  rw [nthN_eq (by rw [evsN_len]; exact h), nthN_eq h]; simp [evsN]
theorem evsN_lt {p : Nat} (hp : 1 ≤ p) (M xs : List Nat) : ∀ y ∈ evsN p M xs, y < p := fun y hy => by
  obtain ⟨x, -, rfl⟩ := List.mem_map.1 hy; exact evN_lt hp _ _
theorem evsN_take (p : Nat) (M xs : List Nat) {k : Nat} (h : k < xs.length) : evsN p M (xs.take (k + 1)) = evsN p M (xs.take k) ++ [evN p M (nthN xs k)] := by
  rw [List.take_succ_eq_append_getElem h, nthN_eq h]; simp only [evsN, List.map_append, List.map_cons, List.map_nil]
/-- What PolyThrough says of lists. -/
theorem thr_back {p : Nat} (hp : PrimeN p) {xs : List Nat} (hx : ∀ y ∈ xs, y < p) (hn : xs.Nodup) {M : List Nat} (hl : M.length = xs.length) (hM : ∀ c ∈ M, c < p) : thN p xs (evsN p M xs) = shN M :=
  th_back hp hx hn (evsN_lt (by have := hp.1; omega) M xs) (by omega) hM fun j hj => evsN_nth p M xs hj
theorem thr_at {p : Nat} (hp : PrimeN p) {xs : List Nat} (hx : ∀ y ∈ xs, y < p) (hn : xs.Nodup) {M : List Nat} (hl : M.length = xs.length) (x : Nat) : wgN p (wsN p xs x) (evsN p M xs) xs.length = evN p M x :=
  interpN hp hx hn (by omega) (fun i hi => evsN_nth p M xs hi) x

set_option maxRecDepth 100000 in
set_option maxHeartbeats 4000000 in
theorem polyThrough_walk (A0 : Option Addr) (L0 : List Int) (c0 : Nat) (w : World) (hl0 : L0.length ≤ maxLen) (hI0 : IntsAt w A0 L0) (_ : ∀ n ∈ L0, -9223372036854775808 ≤ n ∧ n ≤ 9223372036854775807) :
    Calls Try.prog 7 #[.slice A0 L0.length c0] w (RetB (.bool true) w) := by
  by_cases hlight : (L0.length : Int) ≤ 500
  · have hL := light_any A0 L0.length c0 w
    rw [decide_eq_true hlight] at hL
    have HLt := Lib.hid hL
    clear hL hlight
    go_enter Try.func7, Try.ntmps7
    go_wp2_with fail
    refine ret_pure HLt.out ?_
    clear HLt
    go_wp2_with fail
    refine (roll_any A0 L0 c0 _ hl0 hI0).mono ?_
    rintro e w1 ⟨D, rfl, hDs, hD, hb1⟩
    have hE1 : Env w w1 D L0 := ⟨hD, hDs, hb1⟩
    clear hI0 hD hDs hb1
    go_wp2_with fail
    refine (prime_any D L0 _ hE1.dice).mono ?_
    rintro e w2 ⟨p, rfl, hpp, hp5, -, hD2, hg2⟩
    have hE2 := hE1.next hD2 hg2
    have h2 := hpp.1
    have h1 : 1 ≤ p := by omega
    have hp2 : p ≤ 2147483648 := by omega
    have HPP := Lib.hid hpp
    clear hg2 hD2 hE1 hpp
    go_wp2_with fail
    refine (points_any D _ p 7 _ hE2.dice h1 hp2 (by omega)).mono ?_
    rintro e w3 ⟨X, cx, xs, Y, cy, ys, R3, rfl, hnd, hxp, hyp, hyl, hxl, hX, hY, hD3, hg3⟩
    have hE3 := hE2.next hD3 hg3
    clear hD3 hg3 hE2
    by_cases h0 : xs.length = 0
    · have t1 : ((xs.length : Int) == 0) = true := by simp [h0]
      clear h0 hyl hxp hyp hnd hX hY
      go_wp2_with fail
      refine ret_below (awake_any _) ?_
      intro w9 hb9
      have hbf := below_trans hE3.below hb9
      go_wp2_with fail
      go_ret
      exact RetB.bool rfl hbf
    · have t1 : ((xs.length : Int) == 0) = false := beq_eq_false_iff_ne.2 (by omega)
      have hx1 : 1 ≤ xs.length := by omega
      have hck := ckE_ok h0 hnd
      have hte : itE xs ys = 0 := by rw [itE_len hyl.symm]; exact hck
      have hth := through_any p X Y xs ys cx cy w3 h2 hp2 hX.nats hY.nats hxp hyp (by omega)
      rw [thR_ok hte, hte] at hth
      have HTH := Lib.hid hth
      have hlt := thN_len p xs ys
      have HTP := Lib.hid (thN_lt h1 xs ys)
      have HTA := Lib.hid (fun (j : Nat) (hj : j < xs.length) => thN_at HPP.out hxp hnd hyp hj)
      have HTT := Lib.hid (thN_top (p := p) (xs := xs) (ys := ys))
      have HX3 := Lib.hid hX
      have HY3 := Lib.hid hY
      have HXP := Lib.hid hxp
      have HYL := Lib.hid hyl
      have HCK := Lib.hid hck
      have HND := Lib.hid hnd
      have hyl1 : xs.length ≤ ys.length := by omega
      clear h0 hck hte hth hX hY hxp hyp hyl hnd
      generalize thN p xs ys = T at *
      go_wp2_with fail
      refine HTH.out.mono ?_
      rintro e w4 ⟨TA, tc, rfl, hTn, -, -, hb4⟩
      have hE4 := hE3.mv hb4
      have HT4 := Lib.hid hTn
      have HX4 := Lib.hid (HX3.out.below hb4)
      have HY4 := Lib.hid (HY3.out.below hb4)
      have t2 : decide ((xs.length : Int) < (T.length : Int)) = false := decide_eq_false (by omega)
      clear hTn HTH hE3 hb4 HX3 HY3
      have tail : True := trivial
      rcases Nat.eq_zero_or_pos T.length with hT0 | hT0
      · have t3 : decide ((0 : Int) < (T.length : Int)) = false := decide_eq_false (by omega)
        have t4 : ¬ ((0 : Int) < (T.length : Int)) := by omega
        clear hT0
        go_wp2_with fail
        go_loopw [70] (fun i wr => ∃ j : Nat, j ≤ xs.length ∧ i = .int .i64 j ∧ Below w4.heap.size w4 wr) (fun i _ => xs.length - (intOf i).toNat)
        case atStart => exact ⟨0, Nat.zero_le _, rfl, Below.refl _ _⟩
        case round =>
          obtain ⟨j, hj, rfl, hbr⟩ := hrel
          have HTr := Lib.hid (HT4.out.below hbr)
          have HXr := Lib.hid (HX4.out.below hbr)
          have HYr := Lib.hid (HY4.out.below hbr)
          by_cases hlt : j < xs.length
          · obtain ⟨bX, oX, rfl, hbX, hcX⟩ := HXr.out.nats j hlt
            obtain ⟨bY, oY, rfl, hbY, hcY⟩ := HYr.out.nats j (by omega)
            have hev := fun (W : World) (hb : Below wr.heap.size wr W) => eval_any p (nthN xs j) _ T tc W h1 hp2 (nthN_lt h1 HXP.out j) HTP.out (HTr.out.below hb) (by omega)
            rw [HTA.out j hlt] at hev
            have HEV := Lib.hid hev
            have i1 : (0 : Int) ≤ (j : Int) := by omega
            have i2 : (j : Int) < (xs.length : Int) := by omega
            have i3 : (j : Int) < (ys.length : Int) := by omega
            have t6 : ((nthN ys j : Int) != (nthN ys j : Int)) = false := by simp
            clear hev
            go_wp2_with fail
            refine wp_region_grew (by kernel_rfl) (by kernel_rfl) ?_
            repeat (go_big_quiet_step ((go_at_call 16; exact grew_of (HEV.out _ (grewW.below _ _)))))
            refine wpQuiet_nil ?_
            intro w5 hb5
            go_wp2_with fail
            go_roundw
            case rel => exact ⟨j + 1, by omega, by go_num, below_trans hbr hb5⟩
            case measure => simp [intOf]; omega
          · have hE5 := hE4.mv hbr
            clear HTr HYr HT4 HX4 HY4 HTA HTT HTP hE4 hbr
            go_wp2_with fail
            refine (elements_any D _ p xs.length _ hE5.dice h1 hp2 (by omega)).mono ?_
            intro e w6 he
            obtain ⟨MA, mc, M, R6, rfl, hMl, hMp, hM, hD6, hg6⟩ := elems_held hE5.lt he
            have hE6 := hE5.next hD6 hg6
            have HX6 := Lib.hid (HXr.out.mv hg6)
            have HM6 := Lib.hid hM
            have HMP := Lib.hid hMp
            have HML := Lib.hid hMl
            have hml : M.length ≤ 7 := by omega
            clear he hD6 hg6 hE5 hM hMp hMl HXr
            go_wp2_with fail
            go_loopw [12, 92] (fun l i wr => ∃ k : Nat, k ≤ xs.length ∧ i = .int .i64 k ∧ wr.ownsRow w6.heap.size 3 1 l (evsN p M (xs.take k)).length (valsN (evsN p M (xs.take k))) ∧ Below w6.heap.size w6 wr) (fun _ i _ => xs.length - (intOf i).toNat)
            case atStart => exact ⟨0, by omega, rfl, World.ownsRow_nil _ _ _ _, Below.refl _ _⟩
            case round =>
              obtain ⟨k, hk, rfl, hown, hb⟩ := hrel
              have hsz := hb.size
              by_cases hlt : k < xs.length
              · obtain ⟨bX, oX, rfl, hbX, hcX⟩ := (HX6.out.below hb).nats k hlt
                have HEV := Lib.hid (evsN_take p M xs hlt)
                have hln : (evsN p M (xs.take k)).length ≤ 7 := by rw [evsN_len]; simp; omega
                have hxk := nthN_lt h1 HXP.out k
                generalize evsN p M (xs.take k) = S at *
                go_wp2_with fail
                refine ret_below (eval_any p (nthN xs k) MA M mc _ h1 hp2 hxk HMP.out (HM6.out.nats.below hb) (by omega)) ?_
                intro w7 hb7
                have hown7 := own_below hown hb7
                have hb67 := below_trans hb hb7
                have hs7 := hb67.size
                clear hown
                generalize evN p M (nthN xs k) = vv at *
                go_wp2_with (at_builtin; refine app_nats rfl (.tmp 96) (.tmp 101) rfl (base := w6.heap.size) (S := S) (T := [vv]) rfl (hown7.alloc _) rfl ((lit1_nats w7 vv).nats.news rfl) (by simp; omega) (by simp; omega) ?_; intro v8 w8 hown8 hg8 hb8)
                go_roundw
                case rel => exact ⟨k + 1, by omega, by go_num, by rw [HEV.out]; exact hown8, hb67.trans (below_of_alloc hb8 hs7)⟩
                case measure => simp [intOf]; omega
              · obtain rfl : k = xs.length := by omega
                rw [List.take_length] at hown
                obtain ⟨Z, zc, rfl, hZ, hZS, hZb⟩ := own_sl hown rfl
                have hD6 := hE6.lt
                have hzl : (evsN p M xs).length = xs.length := evsN_len p M xs
                have hZH : Held wr D Z zc (evsN p M xs) := ⟨hZ, hZS, fun b off e => by have := hZb b off e; omega⟩
                have hte : itE xs (evsN p M xs) = 0 := by rw [itE_len hzl.symm]; exact HCK.out
                have hth := through_any p X Z xs (evsN p M xs) cx zc wr h2 hp2 (HX6.out.below hb).nats hZ HXP.out (evsN_lt h1 M xs) (by omega)
                rw [thR_ok hte, hte, thr_back HPP.out HXP.out HND.out HML.out HMP.out] at hth
                have hit : ∀ (x : Nat) (W : World), x < p → wr.grownBy W (some D) → Calls Try.prog 28 #[.int .i64 p, .slice X xs.length cx, .slice Z (evsN p M xs).length zc, .int .i64 x] W (RetB (.tuple #[.int .i64 (evN p M x : Nat), .int .i64 0]) W) := fun x W hx hg => by
                  have := interpolate_any p X Z xs (evsN p M xs) cx zc x W h2 hp2 ((HX6.out.below hb).mv hg).nats (hZH.mv hg).nats HXP.out (evsN_lt h1 M xs) (by omega) hx
                  rw [itV_ok hte, hte, thr_at HPP.out HXP.out HND.out HML.out] at this
                  exact this
                have HTH2 := Lib.hid hth
                have HIT := Lib.hid hit
                have hE7 := hE6.mv hb
                have HM7 := Lib.hid (HM6.out.below hb)
                obtain ⟨K, hK⟩ : ∃ K, K = dgN M := ⟨_, rfl⟩
                have hKl : K ≤ M.length := by rw [hK]; exact dgN_le M
                have hsl : (shN M).length = K := by rw [shN_len, hK]
                have hdc : ∀ (W : World), wr.grownBy W (some D) → Calls Try.prog 18 #[.slice MA M.length mc] W (RetB (.int .i64 ((K : Int) - 1)) W) := fun W hg => by
                  have := degree_any MA M mc W (HM7.out.mv hg).nats (by omega)
                  rw [show dgI M = (K : Int) - 1 by unfold dgI; rw [hK]] at this
                  exact this
                have hsm : ∀ (W : World) (BA : Option Addr) (bc : Nat), NatsAt W BA (shN M) → wr.grownBy W (some D) → Calls Try.prog 20 #[.slice BA (shN M).length bc, .slice MA K mc] W (Ret (.bool true) W) := fun W BA bc hB hg => by
                  have := same_nats BA MA (shN M) bc mc W hB ((HM7.out.mv hg).nats.take _) (by omega)
                  rw [hsl] at this ⊢
                  exact this
                have HDC := Lib.hid hdc
                have HSM := Lib.hid hsm
                have j1 : (0 : Int) ≤ (K : Int) := by omega
                have j2 : (K : Int) ≤ (mc : Int) := by have := HM7.out.ok.len; omega
                have j3 : K ≤ 7 := by omega
                have hzl' : (evsN p M xs).length ≤ 7 := by omega
                clear hth hit hdc hsm hZ hZS hZb hzl hte hZH hown hK hsl HM6 hE6 hKl
                generalize evsN p M xs = zs at *
                go_wp2_with fail
                refine HTH2.out.mono ?_
                rintro e w8 ⟨BA, bc, rfl, hBn, hBS, hBb, hb8⟩
                have hE8 := hE7.mv hb8
                have HBH := Lib.hid (held_new hE7.lt hBn hBS hBb)
                clear HTH2 hBn hBS hBb hE7
                go_wp2_with fail
                refine (next_nat D _ p _ hE8.dice (by omega) (by omega)).mono ?_
                rintro e w9 ⟨x, rfl, hx, hD9, hg9⟩
                have hE9 := hE8.next hD9 hg9
                have hg79 := grown_trans (grown_of_below (r := some D) hb8) hg9
                have HBH9 := Lib.hid (HBH.out.mv hg9)
                have hxp : x < p := by omega
                clear hD9 hg9 hE8 HBH hx hb8
                go_wp2_with fail
                refine ret_below (HIT.out x _ hxp hg79) ?_
                intro w10 hb10
                have hg710 := grown_trans hg79 (grown_of_below (r := some D) hb10)
                go_wp2_with fail
                refine ret_below (HDC.out _ hg710) ?_
                intro w11 hb11
                have hg711 := grown_trans hg710 (grown_of_below (r := some D) hb11)
                have hE11 := hE9.mv (below_trans hb10 hb11)
                have HBH11 := Lib.hid (HBH9.out.below (below_trans hb10 hb11))
                clear hE9 HBH9 hb10 hb11 hg79 hg710
                go_wp2_with fail
                refine ret_pure (HSM.out _ _ _ HBH11.out.nats hg711) ?_
                go_wp2_with fail
                refine ret_below (eval_any p x MA M mc _ h1 hp2 hxp HMP.out (HM7.out.mv hg711).nats (by omega)) ?_
                intro w12 hb12
                have hE12 := hE11.mv hb12
                generalize evN p M x = vv at *
                go_wp2_with fail
                refine ret_below (awake_any _) ?_
                intro w13 hb13
                have hbf := below_trans hE12.below hb13
                go_wp2_with fail
                go_ret
                exact RetB.bool rfl hbf
      · have t3 : decide ((0 : Int) < (T.length : Int)) = true := decide_eq_true (by omega)
        have t4 : ((0 : Int) < (T.length : Int)) := by omega
        obtain ⟨l1, hl1⟩ : ∃ l1, l1 = T.length - 1 := ⟨_, rfl⟩
        obtain ⟨bT, oT, hTA, hbT, hcT⟩ := HT4.out l1 (by omega)
        have hne := last_at hT0 hl1 HTT.out
        have t5 : ((nthN T l1 : Int) == 0) = false := beq_eq_false_iff_ne.2 (by omega)
        have e3 : IntKind.i64.wrap ((T.length : Int) - 1) = (l1 : Int) := (IntWalk.i64_in _ (by omega)).trans (by omega)
        have e4 : (T.length : Int) - 1 = (l1 : Int) := by omega
        have i4 : (0 : Int) ≤ (l1 : Int) := by omega
        have i5 : (l1 : Int) < (T.length : Int) := by omega
        subst hTA
        have HE := Lib.hid e4
        clear e4 hl1 hT0 hne
        go_wp2_with fail
        clear t5 e3 hcT
        go_loopw [70] (fun i wr => ∃ j : Nat, j ≤ xs.length ∧ i = .int .i64 j ∧ Below w4.heap.size w4 wr) (fun i _ => xs.length - (intOf i).toNat)
        case atStart => exact ⟨0, Nat.zero_le _, rfl, Below.refl _ _⟩
        case round =>
          obtain ⟨j, hj, rfl, hbr⟩ := hrel
          have HTr := Lib.hid (HT4.out.below hbr)
          have HXr := Lib.hid (HX4.out.below hbr)
          have HYr := Lib.hid (HY4.out.below hbr)
          by_cases hlt : j < xs.length
          · obtain ⟨bX, oX, rfl, hbX, hcX⟩ := HXr.out.nats j hlt
            obtain ⟨bY, oY, rfl, hbY, hcY⟩ := HYr.out.nats j (by omega)
            have hev := fun (W : World) (hb : Below wr.heap.size wr W) => eval_any p (nthN xs j) _ T tc W h1 hp2 (nthN_lt h1 HXP.out j) HTP.out (HTr.out.below hb) (by omega)
            rw [HTA.out j hlt] at hev
            have HEV := Lib.hid hev
            have i1 : (0 : Int) ≤ (j : Int) := by omega
            have i2 : (j : Int) < (xs.length : Int) := by omega
            have i3 : (j : Int) < (ys.length : Int) := by omega
            have t6 : ((nthN ys j : Int) != (nthN ys j : Int)) = false := by simp
            clear hev
            go_wp2_with fail
            refine wp_region_grew (by kernel_rfl) (by kernel_rfl) ?_
            repeat (go_big_quiet_step ((go_at_call 16; exact grew_of (HEV.out _ (grewW.below _ _)))))
            refine wpQuiet_nil ?_
            intro w5 hb5
            go_wp2_with fail
            go_roundw
            case rel => exact ⟨j + 1, by omega, by go_num, below_trans hbr hb5⟩
            case measure => simp [intOf]; omega
          · have hE5 := hE4.mv hbr
            clear HTr HYr HT4 HX4 HY4 HTA HTT HTP hE4 hbr
            go_wp2_with fail
            refine (elements_any D _ p xs.length _ hE5.dice h1 hp2 (by omega)).mono ?_
            intro e w6 he
            obtain ⟨MA, mc, M, R6, rfl, hMl, hMp, hM, hD6, hg6⟩ := elems_held hE5.lt he
            have hE6 := hE5.next hD6 hg6
            have HX6 := Lib.hid (HXr.out.mv hg6)
            have HM6 := Lib.hid hM
            have HMP := Lib.hid hMp
            have HML := Lib.hid hMl
            have hml : M.length ≤ 7 := by omega
            clear he hD6 hg6 hE5 hM hMp hMl HXr
            go_wp2_with fail
            go_loopw [12, 92] (fun l i wr => ∃ k : Nat, k ≤ xs.length ∧ i = .int .i64 k ∧ wr.ownsRow w6.heap.size 3 1 l (evsN p M (xs.take k)).length (valsN (evsN p M (xs.take k))) ∧ Below w6.heap.size w6 wr) (fun _ i _ => xs.length - (intOf i).toNat)
            case atStart => exact ⟨0, by omega, rfl, World.ownsRow_nil _ _ _ _, Below.refl _ _⟩
            case round =>
              obtain ⟨k, hk, rfl, hown, hb⟩ := hrel
              have hsz := hb.size
              by_cases hlt : k < xs.length
              · obtain ⟨bX, oX, rfl, hbX, hcX⟩ := (HX6.out.below hb).nats k hlt
                have HEV := Lib.hid (evsN_take p M xs hlt)
                have hln : (evsN p M (xs.take k)).length ≤ 7 := by rw [evsN_len]; simp; omega
                have hxk := nthN_lt h1 HXP.out k
                generalize evsN p M (xs.take k) = S at *
                go_wp2_with fail
                refine ret_below (eval_any p (nthN xs k) MA M mc _ h1 hp2 hxk HMP.out (HM6.out.nats.below hb) (by omega)) ?_
                intro w7 hb7
                have hown7 := own_below hown hb7
                have hb67 := below_trans hb hb7
                have hs7 := hb67.size
                clear hown
                generalize evN p M (nthN xs k) = vv at *
                go_wp2_with (at_builtin; refine app_nats rfl (.tmp 96) (.tmp 101) rfl (base := w6.heap.size) (S := S) (T := [vv]) rfl (hown7.alloc _) rfl ((lit1_nats w7 vv).nats.news rfl) (by simp; omega) (by simp; omega) ?_; intro v8 w8 hown8 hg8 hb8)
                go_roundw
                case rel => exact ⟨k + 1, by omega, by go_num, by rw [HEV.out]; exact hown8, hb67.trans (below_of_alloc hb8 hs7)⟩
                case measure => simp [intOf]; omega
              · obtain rfl : k = xs.length := by omega
                rw [List.take_length] at hown
                obtain ⟨Z, zc, rfl, hZ, hZS, hZb⟩ := own_sl hown rfl
                have hD6 := hE6.lt
                have hzl : (evsN p M xs).length = xs.length := evsN_len p M xs
                have hZH : Held wr D Z zc (evsN p M xs) := ⟨hZ, hZS, fun b off e => by have := hZb b off e; omega⟩
                have hte : itE xs (evsN p M xs) = 0 := by rw [itE_len hzl.symm]; exact HCK.out
                have hth := through_any p X Z xs (evsN p M xs) cx zc wr h2 hp2 (HX6.out.below hb).nats hZ HXP.out (evsN_lt h1 M xs) (by omega)
                rw [thR_ok hte, hte, thr_back HPP.out HXP.out HND.out HML.out HMP.out] at hth
                have hit : ∀ (x : Nat) (W : World), x < p → wr.grownBy W (some D) → Calls Try.prog 28 #[.int .i64 p, .slice X xs.length cx, .slice Z (evsN p M xs).length zc, .int .i64 x] W (RetB (.tuple #[.int .i64 (evN p M x : Nat), .int .i64 0]) W) := fun x W hx hg => by
                  have := interpolate_any p X Z xs (evsN p M xs) cx zc x W h2 hp2 ((HX6.out.below hb).mv hg).nats (hZH.mv hg).nats HXP.out (evsN_lt h1 M xs) (by omega) hx
                  rw [itV_ok hte, hte, thr_at HPP.out HXP.out HND.out HML.out] at this
                  exact this
                have HTH2 := Lib.hid hth
                have HIT := Lib.hid hit
                have hE7 := hE6.mv hb
                have HM7 := Lib.hid (HM6.out.below hb)
                obtain ⟨K, hK⟩ : ∃ K, K = dgN M := ⟨_, rfl⟩
                have hKl : K ≤ M.length := by rw [hK]; exact dgN_le M
                have hsl : (shN M).length = K := by rw [shN_len, hK]
                have hdc : ∀ (W : World), wr.grownBy W (some D) → Calls Try.prog 18 #[.slice MA M.length mc] W (RetB (.int .i64 ((K : Int) - 1)) W) := fun W hg => by
                  have := degree_any MA M mc W (HM7.out.mv hg).nats (by omega)
                  rw [show dgI M = (K : Int) - 1 by unfold dgI; rw [hK]] at this
                  exact this
                have hsm : ∀ (W : World) (BA : Option Addr) (bc : Nat), NatsAt W BA (shN M) → wr.grownBy W (some D) → Calls Try.prog 20 #[.slice BA (shN M).length bc, .slice MA K mc] W (Ret (.bool true) W) := fun W BA bc hB hg => by
                  have := same_nats BA MA (shN M) bc mc W hB ((HM7.out.mv hg).nats.take _) (by omega)
                  rw [hsl] at this ⊢
                  exact this
                have HDC := Lib.hid hdc
                have HSM := Lib.hid hsm
                have j1 : (0 : Int) ≤ (K : Int) := by omega
                have j2 : (K : Int) ≤ (mc : Int) := by have := HM7.out.ok.len; omega
                have j3 : K ≤ 7 := by omega
                have hzl' : (evsN p M xs).length ≤ 7 := by omega
                clear hth hit hdc hsm hZ hZS hZb hzl hte hZH hown hK hsl HM6 hE6 hKl
                generalize evsN p M xs = zs at *
                go_wp2_with fail
                refine HTH2.out.mono ?_
                rintro e w8 ⟨BA, bc, rfl, hBn, hBS, hBb, hb8⟩
                have hE8 := hE7.mv hb8
                have HBH := Lib.hid (held_new hE7.lt hBn hBS hBb)
                clear HTH2 hBn hBS hBb hE7
                go_wp2_with fail
                refine (next_nat D _ p _ hE8.dice (by omega) (by omega)).mono ?_
                rintro e w9 ⟨x, rfl, hx, hD9, hg9⟩
                have hE9 := hE8.next hD9 hg9
                have hg79 := grown_trans (grown_of_below (r := some D) hb8) hg9
                have HBH9 := Lib.hid (HBH.out.mv hg9)
                have hxp : x < p := by omega
                clear hD9 hg9 hE8 HBH hx hb8
                go_wp2_with fail
                refine ret_below (HIT.out x _ hxp hg79) ?_
                intro w10 hb10
                have hg710 := grown_trans hg79 (grown_of_below (r := some D) hb10)
                go_wp2_with fail
                refine ret_below (HDC.out _ hg710) ?_
                intro w11 hb11
                have hg711 := grown_trans hg710 (grown_of_below (r := some D) hb11)
                have hE11 := hE9.mv (below_trans hb10 hb11)
                have HBH11 := Lib.hid (HBH9.out.below (below_trans hb10 hb11))
                clear hE9 HBH9 hb10 hb11 hg79 hg710
                go_wp2_with fail
                refine ret_pure (HSM.out _ _ _ HBH11.out.nats hg711) ?_
                go_wp2_with fail
                refine ret_below (eval_any p x MA M mc _ h1 hp2 hxp HMP.out (HM7.out.mv hg711).nats (by omega)) ?_
                intro w12 hb12
                have hE12 := hE11.mv hb12
                generalize evN p M x = vv at *
                go_wp2_with fail
                refine ret_below (awake_any _) ?_
                intro w13 hb13
                have hbf := below_trans hE12.below hb13
                go_wp2_with fail
                go_ret
                exact RetB.bool rfl hbf
  · have hL := light_any A0 L0.length c0 w
    rw [decide_eq_false hlight] at hL
    have HLt := Lib.hid hL
    clear hL
    go_enter Try.func7, Try.ntmps7
    go_wp2_with fail
    refine ret_pure HLt.out ?_
    go_wp2_with fail
    refine ret_below (awake_any _) ?_
    intro w1 hb1
    go_wp2
    go_ret
    exact RetB.bool rfl hb1
end Go.Proofs.Ythbablmgpjjphaa
