/-
  Reshare: Move.
  Reshare: the sanity check; random numbers for each old holder.
  Reshare: a plan's variable is written.
  Reshare: lists of shares, one for each new holder, in blocks that X allows (the list of the old holders lies in none of them).
  Reshare: Join of too few parts.
  Reshare: what holds while parts are made.
  ReshareParts: the walk.
  A slice of numbers that came in reads as a list.
  Conditions: those that each theorem names.
-/
import Derived.Test.YtlhipgejiacklaaDoorM8
set_option linter.unusedVariables false
set_option linter.unusedSimpArgs false
namespace Go.Proofs.YtlhipgejiacklaaDoor
open Go.RowKit
attribute [local go_sem high] sliced_low

def midN (p n' h' : Nat) (M : List ShN) (rs : List (List Nat)) (k j : Nat) : List (List ShN) := (List.range h').map fun q => if q < j then givenN p n' h' M rs (k + 1) q else givenN p n' h' M rs k q
theorem midN_len (p n' h' : Nat) (M : List ShN) (rs : List (List Nat)) (k j : Nat) : (midN p n' h' M rs k j).length = h' := by simp [midN]
theorem midN_at {p n' h' : Nat} {M : List ShN} {rs : List (List Nat)} {k j q : Nat} (hq : q < h') : (midN p n' h' M rs k j)[q]? = some (if q < j then givenN p n' h' M rs (k + 1) q else givenN p n' h' M rs k q) := by simp [midN, hq]
theorem midN_succ {p n' h' : Nat} {M : List ShN} {rs : List (List Nat)} {k j : Nat} (hj : j < h') : (midN p n' h' M rs k j).set j (givenN p n' h' M rs k j ++ [(j + 1, vN (dealN p n' h' (vN M k) (rs.getD k [])) j)]) = midN p n' h' M rs k (j + 1) := by
  refine List.ext_getElem? fun q => ?_
  rcases Nat.lt_or_ge q h' with hq | hq
  · by_cases e : j = q
    · subst e
      rw [List.getElem?_set_self (by rw [midN_len]; exact hq), midN_at hq, if_pos (by omega), givenN_succ]
    · rw [List.getElem?_set_ne e, midN_at hq, midN_at hq]
      by_cases h1 : q < j
      · rw [if_pos h1, if_pos (by omega)]
      · rw [if_neg h1, if_neg (by omega)]
  · rw [List.getElem?_eq_none (by rw [List.length_set, midN_len]; exact hq), List.getElem?_eq_none (by rw [midN_len]; exact hq)]
def gvnL (p n' h' : Nat) (M : List ShN) (rs : List (List Nat)) (k : Nat) : List (List ShN) := (List.range h').map fun q => givenN p n' h' M rs k q
theorem mid_zero (p n' h' : Nat) (M : List ShN) (rs : List (List Nat)) (k : Nat) : midN p n' h' M rs k 0 = gvnL p n' h' M rs k := by simp [midN, gvnL]
theorem mid_all (p n' h' : Nat) (M : List ShN) (rs : List (List Nat)) (k : Nat) : midN p n' h' M rs k h' = gvnL p n' h' M rs (k + 1) := by
  unfold midN gvnL
  refine List.map_congr_left fun q hq => ?_
  rw [if_pos (List.mem_range.1 hq)]
theorem gvn_zero (p n' h' : Nat) (M : List ShN) (rs : List (List Nat)) : gvnL p n' h' M rs 0 = List.replicate h' [] := by simp [gvnL, givenN, List.map_const']

theorem DealR.weak {N : List ShN} {h : Nat} {w W w' : World} {e : Ending} (H : DealR N h W e w') (hb : Below w.heap.size w W) : DealR N h w e w' := by
  obtain ⟨A, c, he, hS, hb2⟩ := H
  exact ⟨A, c, he, hS.mono (fun b _ hq => Nat.le_trans hb.size hq), below_trans hb hb2⟩

theorem GivenR.own_lt {w : World} {base g : Nat} {Vs : List Value} {Ns : List (List ShN)} (h : GivenR w base g Vs Ns) : ∀ u ∈ Vs, ∀ b, u.ownBlock = some b → b < w.heap.size := fun u hu b hb => by
  obtain ⟨i, hi, rfl⟩ := List.getElem_of_mem hu
  exact ((h.row i _ _ (List.getElem?_eq_getElem hi) (List.getElem?_eq_getElem (show i < Ns.length by rw [← h.len]; exact hi))).lt b hb).2
theorem parts_add {W w' : World} {base g k : Nat} {Vs : List Value} {v v' : Value} {DA : Option Addr} {dc : Nat} {S : List Shr} (h : ShP (fun b => base ≤ b ∧ b ≠ g ∧ ∀ u ∈ Vs, u.ownBlock ≠ some b) W DA dc S) (hk : Vs[k]? = some v) (hg : W.grownBy w' v.ownBlock)
    (hv : ∀ b, v'.ownBlock = some b → v.ownBlock = some b ∨ W.heap.size ≤ b) : ShP (fun b => base ≤ b ∧ b ≠ g ∧ ∀ u ∈ Vs.set k v', u.ownBlock ≠ some b) (w'.setCell ⟨g, k, none⟩ v') DA dc S := by
  have hmem : v ∈ Vs := List.mem_of_getElem? hk
  have h1 : ShP (fun b => (base ≤ b ∧ b ≠ g ∧ ∀ u ∈ Vs.set k v', u.ownBlock ≠ some b) ∧ v.ownBlock ≠ some b) W DA dc S := h.mono fun b hlt hb => ⟨⟨hb.1, hb.2.1, fun u hu => by
    rcases List.mem_or_eq_of_mem_set hu with h1 | h1
    · exact hb.2.2 u h1
    · subst h1
      intro e
      rcases hv b e with e | e
      · exact hb.2.2 v hmem e
      · omega⟩, hb.2.2 v hmem⟩
  have h2 := h1.keep (w' := w') ⟨hg.size, fun b hb hlt => hg.block b hlt (fun e => hb.2 e.symm)⟩
  have h3 := h2.keep (w' := w'.setCell ⟨g, k, none⟩ v') ⟨by simp [World.setCell], fun b hb hlt => Below.heap_setCell w' _ v' b (fun e => hb.1.2.1 e)⟩
  exact h3.mono fun b _ hb => hb.1

set_option maxRecDepth 100000 in
set_option maxHeartbeats 8000000 in
theorem move_made {P P' : Nat → Prop} (p n h n' h' : Nat) (A RA : Option Addr) (c rc kM kr : Nat) (a : List Nat) (M : List ShN) (rs : List (List Nat)) (w : World) (PN : PlanN p n h) (PN' : PlanN p n' h') (hB : Bases w) (H : Made p n h a M) (hm : a.length ≤ 64) (hA : ShP P w A c (shL M)) (hR : LstP P' w RA rc rs)
    (hn : n ≤ M.length) (hl : M.length ≤ 16) (hkM : kM = M.length) (hkr : kr = rs.length) (hr : n ≤ rs.length) (hr2 : rs.length ≤ 1000) (hrs : Rands p n' a.length n rs) :
    Calls Tryd.prog 46 #[planV p n h, planV p n' h', .slice A kM c, .slice RA kr rc] w (DealR (movedN p n' h' M rs n) h' w) := by
  subst hkM hkr
  have hn1 := PN.n1
  have hp1 := PN.p1
  have hcap := hA.cap
  have hh'7 := PN'.h7
  have HCK := Lib.hid (fun (W : World) (hb : Below w.heap.size w W) => check_made (k := M.length) H PN A c W (hB.below hb hB.1) (hA.below hb) (by omega) (by omega) rfl hn)
  have HPL := Lib.hid (fun (W : World) (hb : Below w.heap.size w W) => plans_made p n h n' h' W PN PN' (hB.below hb hB.1))
  have HBS := Lib.hid hB
  have HA := Lib.hid hA
  have HR := Lib.hid hR
  have HM := Lib.hid H
  have HPN := Lib.hid PN
  have HPN' := Lib.hid PN'
  have HRS := Lib.hid hrs
  clear hB hA hR H PN PN' hrs
  go_enter Tryd.func46, Tryd.ntmps46
  go_wp2_with fail
  refine gen_calls fun w1 hw1 => ?_
  have hP : PlanCell w1 w.heap.size p n h := by rw [hw1]; exact (PlanCell.new _ _ _ rfl).alloc _
  have hQ : PlanCell w1 (w.heap.size + 1) p n' h' := by rw [hw1]; exact PlanCell.new _ _ _ (by simp)
  have hb1 : Below w.heap.size w w1 := by rw [hw1]; exact bl_alloc _ (below_alloc _ _)
  clear hw1
  refine ret_below (HCK.out _ hb1) fun w2 hb2 => ?_
  have hb2w := below_trans hb1 hb2
  have hP2 := hP.below hb2
  have hQ2 := hQ.below hb2
  have p0 := hP2.c0
  have p1 := hP2.c1
  have p2 := hP2.c2
  have q0 := hQ2.c0
  have q1 := hQ2.c1
  have q2 := hQ2.c2
  clear hP hQ hb1 hb2
  go_wp2_with fail
  refine ret_below (HPL.out _ hb2w) fun w3 hb3 => ?_
  have hb3w := below_trans hb2w hb3
  have HP3 := Lib.hid (hP2.below hb3)
  have HQ3 := Lib.hid (hQ2.below hb3)
  have p03 := HP3.out.c0
  have p13 := HP3.out.c1
  have p23 := HP3.out.c2
  have q03 := HQ3.out.c0
  have q13 := HQ3.out.c1
  have q23 := HQ3.out.c2
  have lq3 := HQ3.out.lt
  have i0 : (n : Int) ≤ (c : Int) := by omega
  have i1 : (0 : Int) ≤ (n : Int) := by omega
  clear p0 p1 p2 q0 q1 q2 hP2 hQ2 hb2w hb3 HCK HPL
  go_wp2_with (at_make; refine make_shs rfl _ _ rfl h' rfl rfl rfl (by omega) ?_; intro w4 hg4 hb4)
  have hgl := blk_lt hg4
  have HG4 := Lib.hid (GivenR.new hg4 (Nat.le_refl _))
  have HB4 := Lib.hid hb4
  clear hg4 hb4
  go_loopw [49] (fun i wr => ∃ (k : Nat) (Vs : List Value), k ≤ n ∧ i = .int .i64 k ∧ GivenR wr w3.heap.size w3.heap.size Vs (gvnL p n' h' M rs k) ∧ Below w3.heap.size w3 wr) (fun i _ => n - (intOf i).toNat)
  case atStart => exact ⟨0, _, Nat.zero_le _, rfl, by rw [gvn_zero]; exact HG4.out, HB4.out⟩
  case round =>
    obtain ⟨k, Vs, hk, rfl, hG, hbr⟩ := hrel
    have hbw := below_trans hb3w hbr
    have hsz := hbr.size
    by_cases hlt : k < n
    · have hkM : k < M.length := by omega
      obtain ⟨b1', o1, B1, c1, rfl, hb1, -, x0, x1, hX, -⟩ := (HA.out.below hbw).nat hkM
      obtain ⟨b2, o2, B2, c2, rfl, hb2, -, u0, hU, hUI⟩ := (HR.out.below hbw).at_ k (show k < rs.length by omega)
      have hUN := hUI.ints.nats
      obtain ⟨hx1, hx2, hLp⟩ := (HM.out.good HPN.out.p1 (by omega)).rng k hkM
      have hLl := HM.out.vlen hkM
      have hRl := HRS.out.len k hlt
      have hRp := HRS.out.lt k hlt
      have hRl2 : (rs.getD k []).length ≤ 1048576 := by
        have h0 : a.length * (n' - 1) ≤ 64 * 7 := Nat.mul_le_mul (by omega) (by have := HPN'.out.h7; have := HPN'.out.nh; omega)
        omega
      obtain ⟨DD, hDD⟩ : ∃ D, D = dealN p n' h' (vN M k) (rs.getD k []) := ⟨_, rfl⟩
      have hDl : DD.length = h' := by rw [hDD]; exact deal_len _ _ _ _ _
      have HSPL := Lib.hid (fun (W : World) (hb : Below wr.heap.size wr W) => show Calls Tryd.prog 42 #[planV p n h, planV p n' h', shV (hN M k : Nat) (.slice B1 (vN M k).length c1), .slice B2 (rs.getD k []).length c2] W (DealR DD h' W) from by
        rw [hDD]
        exact split_made p n h n' h' (hN M k) B1 B2 (vN M k) (rs.getD k []) c1 c2 _ W HPN.out HPN'.out (HBS.out.below (below_trans hbw hb) HBS.out.1) (hX.below hb) (hUN.below hb) hU hx1 hx2 hLp hRp (by omega) (by rw [hRl, hLl]) hRl2 rfl)
      have HDD := Lib.hid (And.intro hDD hDl)
      generalize hL : vN M k = L at *
      generalize hx : hN M k = x at *
      generalize hRd : rs.getD k [] = R at *
      have HLX := Lib.hid (And.intro hL (And.intro hx (And.intro hRd (And.intro hLl hRl))))
      have hP := HP3.out.below hbr
      have hQ := HQ3.out.below hbr
      have p0' := hP.c0
      have p1' := hP.c1
      have p2' := hP.c2
      have q0' := hQ.c0
      have q1' := hQ.c1
      have q2' := hQ.c2
      have lq' := hQ.lt
      have i0 : (0 : Int) ≤ (k : Int) := by omega
      have i1 : (k : Int) < (n : Int) := by omega
      have i2 : (k : Int) < (rs.length : Int) := by omega
      have HGV := Lib.hid hG
      clear hLl hRl hX hU hUI hUN hLp hRp hL hx hRd hDD hDl hP hQ hx1 hx2 hG p03 p13 p23 q03 q13 q23
      go_wp2_with fail
      refine gen_world fun w7 hw7 => ?_
      have hsc : ShCell w7 wr.heap.size x (.slice B1 L.length c1) := by rw [hw7]; exact ShCell.new _ _ rfl
      have hb7 : Below wr.heap.size wr w7 := by rw [hw7]; exact below_alloc _ _
      have hb7z := hb7.size
      have v0 := hsc.c0
      have v1 := hsc.c1
      have lg7 := hsc.lt
      have lpr : w.heap.size < wr.heap.size := by omega
      have lp7 : w.heap.size < w7.heap.size := by omega
      have lz7 : w.heap.size + 1 < w7.heap.size := by omega
      have lb7 : b2 < w7.heap.size := by omega
      have y0 := (hb7.cell (p := ⟨w.heap.size, 0, none⟩) lpr).trans p0'
      have y1 := (hb7.cell (p := ⟨w.heap.size, 1, none⟩) lpr).trans p1'
      have y2 := (hb7.cell (p := ⟨w.heap.size, 2, none⟩) lpr).trans p2'
      have y3 := (hb7.cell (p := ⟨w.heap.size + 1, 0, none⟩) lq').trans q0'
      have y4 := (hb7.cell (p := ⟨w.heap.size + 1, 1, none⟩) lq').trans q1'
      have y5 := (hb7.cell (p := ⟨w.heap.size + 1, 2, none⟩) lq').trans q2'
      have u0 := (hb7.cell (p := ⟨b2, o2 + k, none⟩) hb2).trans u0
      clear hw7 hsc p0' p1' p2' q0' q1' q2' x0 x1
      go_region_held3 (fun w' => w'.cell? ⟨w.heap.size, 0, none⟩ = some (.int .i64 (p : Int)) ∧ w'.cell? ⟨w.heap.size, 1, none⟩ = some (.int .i64 (n : Int)) ∧ w'.cell? ⟨w.heap.size, 2, none⟩ = some (.int .i64 (h : Int)) ∧ w'.cell? ⟨w.heap.size + 1, 0, none⟩ = some (.int .i64 (p : Int)) ∧ w'.cell? ⟨w.heap.size + 1, 1, none⟩ = some (.int .i64 (n' : Int)) ∧ w'.cell? ⟨w.heap.size + 1, 2, none⟩ = some (.int .i64 (h' : Int)) ∧ w'.cell? ⟨wr.heap.size, 0, none⟩ = some (.int .i64 (x : Int)) ∧ w'.cell? ⟨wr.heap.size, 1, none⟩ = some (.slice B1 L.length c1) ∧ w'.cell? ⟨b2, o2 + k, none⟩ = some (.slice B2 R.length c2)) (first | go_keep)
        (first | (go_at_call 42; refine (HSPL.out _ (below_trans hb7 (by (repeat (first | exact bl_refl _ | apply bl_drew | apply bl_alloc))))).mono ?_; rintro e w8 hR8; obtain ⟨DA, dc, rfl, hD, hb8⟩ := hR8.weak (w := w7) (by (repeat (first | exact bl_refl _ | apply bl_drew | apply bl_alloc))); have zd := hb8.size; have s0 := (hb8.cell (p := ⟨w.heap.size, 0, none⟩) lp7).trans y0; have s1 := (hb8.cell (p := ⟨w.heap.size, 1, none⟩) lp7).trans y1; have s2 := (hb8.cell (p := ⟨w.heap.size, 2, none⟩) lp7).trans y2; have s3 := (hb8.cell (p := ⟨w.heap.size + 1, 0, none⟩) lz7).trans y3; have s4 := (hb8.cell (p := ⟨w.heap.size + 1, 1, none⟩) lz7).trans y4; have s5 := (hb8.cell (p := ⟨w.heap.size + 1, 2, none⟩) lz7).trans y5; have s6 := (hb8.cell (p := ⟨wr.heap.size, 0, none⟩) lg7).trans v0; have s7 := (hb8.cell (p := ⟨wr.heap.size, 1, none⟩) lg7).trans v1; have s8 := (hb8.cell (p := ⟨b2, o2 + k, none⟩) lb7).trans u0))
      all_goals
        have hG8 := HGV.out.below (below_trans hb7 hb8)
        have hQ8 : ShP (fun b => w3.heap.size ≤ b ∧ b ≠ w3.heap.size ∧ ∀ u ∈ Vs, u.ownBlock ≠ some b) w8 DA dc (shL DD) := hD.mono fun b _ hb => ⟨by omega, by omega, fun u hu e => by have := HGV.out.own_lt u hu b e; omega⟩
        have hB8 : Below w3.heap.size w3 w8 := hbr.trans ((below_trans hb7 hb8).mono hsz)
        have HG8 := Lib.hid (And.intro hG8 (And.intro hQ8 hB8))
        clear hD hG8 hQ8 hB8 HGV hR8 s0 s1 s2 s3 s4 s5 s6 s7 s8 y0 y1 y2 y3 y4 y5 u0 v0 v1 HSPL
        go_wp2_with fail
        go_loopw [70] (fun i wq => ∃ (j : Nat) (Vs : List Value), j ≤ h' ∧ i = .int .i64 j ∧ GivenR wq w3.heap.size w3.heap.size Vs (midN p n' h' M rs k j) ∧ ShP (fun b => w3.heap.size ≤ b ∧ b ≠ w3.heap.size ∧ ∀ u ∈ Vs, u.ownBlock ≠ some b) wq DA dc (shL DD) ∧ Below w3.heap.size w3 wq) (fun i _ => h' - (intOf i).toNat)
        case atStart => exact ⟨0, Vs, Nat.zero_le _, rfl, by rw [mid_zero]; exact HG8.out.1, HG8.out.2.1, HG8.out.2.2⟩
        case round =>
          clear HG8 hbr hsz hbw hb7 hb7z hb8 zd hb1 hb2
          obtain ⟨j, Us, hj, rfl, hG, hQ, hbr⟩ := hrel
          have hsz := hbr.size
          by_cases hjl : j < h'
          · obtain ⟨b3, o3, B3, c3, rfl, hb3, -, z0, z1, -, hI3⟩ := hQ.nat (show j < DD.length by rw [HDD.out.2]; exact hjl)
            obtain ⟨hdx, hdl, hdp⟩ := deal_row (p := p) (n := n') (h := h') (sec := L) (ran := R) HPN.out.p1 hjl
            have hN := midN_at (p := p) (n' := n') (h' := h') (M := M) (rs := rs) (k := k) (j := j) hjl
            rw [if_neg (Nat.lt_irrefl _)] at hN
            obtain ⟨v, hv⟩ : ∃ v, Us[j]? = some v := ⟨_, List.getElem?_eq_getElem (show j < Us.length by rw [hG.len, midN_len]; exact hjl)⟩
            obtain ⟨VA, vc, rfl, -⟩ := (hG.row j v _ hv hN).read
            obtain ⟨hc0, hf0⟩ := hG.cell hv
            rw [← HDD.out.1] at hdx hdl hdp
            rw [hdx] at z0
            rw [shL_len, givenN_len] at hc0 hv
            have HJX := Lib.hid hdx
            have HQ := Lib.hid (And.intro hG (And.intro hQ (And.intro hN (And.intro hv hI3))))
            have HMS := Lib.hid (midN_succ (p := p) (n' := n') (h' := h') (M := M) (rs := rs) (k := k) hjl)
            rw [HLX.out.1, HLX.out.2.2.1, ← HDD.out.1] at HMS
            generalize hK : vN DD j = K at *
            have hgl' := hG.lt
            have hno := hG.no _ (List.mem_of_getElem? hv)
            have i3 : (0 : Int) ≤ (j : Int) := by omega
            have i4 : (j : Int) < (h' : Int) := by omega
            have HNO := Lib.hid hno
            clear hG hQ hN hv hI3 hdx hdl hdp hno hK
            go_wp2_with fail
            refine gen_world fun w9 hw9 => ?_
            have hsc : ShCell w9 wr.heap.size ((j : Int) + 1) (.slice B3 K.length c3) := by rw [hw9]; exact ShCell.new _ _ rfl
            have hb9 : Below wr.heap.size wr w9 := by rw [hw9]; exact below_alloc _ _
            have hb9z := hb9.size
            have v0 := hsc.c0
            have v1 := hsc.c1
            have lg9 := hsc.lt
            have l9 : w3.heap.size < w9.heap.size := by omega
            have g0 := (hb9.cell (p := ⟨w3.heap.size, j, none⟩) hgl').trans hc0
            have gf := (hb9.frozen (p := ⟨w3.heap.size, j, none⟩) hgl').trans hf0
            obtain ⟨hG, hQ, hN, hv, hI3⟩ := HQ.out
            have hG9 := hG.below hb9
            obtain ⟨H, e1, e2, e3⟩ := (hG9.row j _ _ hv hN).ex
            have hHl : H.length ≤ 1000 := by rw [e2, shL_len, givenN_len]; omega
            have HE := Lib.hid (And.intro e2 e3)
            have HG9 := Lib.hid hG9
            have HI9 := Lib.hid (hI3.keep (Kept.below hb9))
            have HQ9 := Lib.hid (hQ.below hb9)
            have HVN := Lib.hid (And.intro hv hN)
            clear hw9 hsc hG hQ hN hv hI3 hG9 e2 e3 hc0 hf0 z0 z1
            go_region_law (refine step_app_hv _ rfl (.tmp 80) (.tmp 82) rfl w9 w3.heap.size (.slice VA k vc) H ((j : Int) + 1) (.slice B3 K.length c3) rfl rfl ⟨rfl, rfl, rfl, rfl⟩ rfl e1 (by omega) (by omega) ?_; intro g6 c6 w6 hown6 hg6 hat6 hb6; have n1 := (World.cell?_of_block (a := ⟨w3.heap.size, j, none⟩) (hg6.block w3.heap.size l9 (fun e => HNO.out e.symm))).trans g0; have n2 := (World.frozen?_of_block (a := ⟨w3.heap.size, j, none⟩) (hg6.block w3.heap.size l9 (fun e => HNO.out e.symm))).trans gf)
            all_goals
              have hvb : ∀ b, (Value.slice (some ⟨g6, 0, none⟩) (H.length + 1) c6).ownBlock = some b → (Value.slice VA k vc).ownBlock = some b ∨ w9.heap.size ≤ b := fun b e2 => by
                have : g6 = b := Option.some.inj (show some g6 = some b from e2)
                subst this
                exact hat6
              have hA := GivenR.add (x := j + 1) (L := K) HG9.out HVN.out.1 HE.out.1 HE.out.2 HI9.out hown6 hg6 hvb
              rw [HMS.out] at hA
              have HAA := Lib.hid (And.intro hA (And.intro (parts_add HQ9.out HVN.out.1 hg6 hvb) (((hbr.trans (hb9.mono hsz)).trans hb6).setCell (p := ⟨w3.heap.size, j, none⟩) (Nat.le_refl _) (.slice (some ⟨g6, 0, none⟩) (H.length + 1) c6))))
              clear hA hvb hown6 hg6 hat6 n1 n2 e1
              go_wp2_with fail
              go_roundw
              case rel => exact ⟨j + 1, _, by omega, by go_num, HAA.out.1, HAA.out.2.1, HAA.out.2.2⟩
              case measure => simp [intOf]; omega
          · obtain rfl : j = h' := by omega
            rw [mid_all] at hG
            have HAA := Lib.hid (And.intro hG hbr)
            clear hG hQ
            go_wp2_with fail
            go_roundw
            case rel => exact ⟨k + 1, _, by omega, by go_num, HAA.out.1, HAA.out.2⟩
            case measure => simp [intOf]; omega
    · have hkn : n = k := by omega
      subst hkn
      obtain ⟨w5, hw5⟩ : ∃ w5, w5 = wr := ⟨_, rfl⟩
      subst hw5
      have HG5 := Lib.hid hG
      have HP5 := Lib.hid (HP3.out.below hbr)
      have HQ5 := Lib.hid (HQ3.out.below hbr)
      have hgl5 := hG.lt
      have lq5 := HQ5.out.lt
      have hb5w := hbw
      have HMT := HM.out.take n
      have hMl : (M.take n).length = n := by rw [List.length_take]; omega
      have hsl : (hsN (M.take n)).length = n := by rw [hsN_len, hMl]
      obtain ⟨F, HF, -, -⟩ := HMT.ex
      have hnd := HF.nd
      have hrg : ∀ x ∈ hsN (M.take n), 1 ≤ x ∧ x ≤ h := fun x hx => by
        obtain ⟨s, hs, rfl⟩ := List.mem_map.1 hx
        exact ⟨(HF.on s hs).1, (HF.on s hs).2.1⟩
      have HHL := Lib.hid (fun (W : World) (hb : Below w.heap.size w W) => show Calls Tryd.prog 80 #[.slice A n c] W (fun e w' => ∃ B cb, e = .returned (.slice B n cb) ∧ NatsAt w' B (hsN (M.take n)) ∧ Below W.heap.size W w') from by
        have := holders_any A c (M.take n) W (by rw [← shL_take]; exact (HA.out.below hb).take n) (by omega)
        rw [hMl] at this
        refine this.mono ?_
        rintro e w' ⟨v, rfl, ho, hb2⟩
        obtain ⟨B, cb, rfl, hN, -⟩ := own_sl ho rfl
        rw [hsl]
        exact ⟨B, cb, rfl, hN, hb2⟩)
      have HSS := Lib.hid (And.intro hsl (And.intro hnd hrg))
      clear hG hbw hsz hbr hMl hsl hnd hrg HF HMT HP3 HQ3 HG4 HB4 hgl lq3 HR
      go_wp2_with fail
      go_loopw [18, 89] (fun o i wr => ∃ j : Nat, j ≤ h' ∧ i = .int .i64 j ∧ RowsV (fun b => w5.heap.size ≤ b) wr w5.heap.size o (shL ((movedN p n' h' M rs n).take j)) ∧ Below w5.heap.size w5 wr) (fun _ i _ => h' - (intOf i).toNat)
      case atStart => exact ⟨0, Nat.zero_le _, rfl, RowsV.nil _ _ _, Below.refl _ _⟩
      case round =>
        obtain ⟨j, hj, rfl, hR, hbr⟩ := hrel
        obtain ⟨OA, oc, hv, hRd⟩ := hR.read
        have hlk : (shL ((movedN p n' h' M rs n).take j)).length = j := by rw [shL_len, List.length_take, movedN_len]; omega
        rw [hlk] at hv
        subst hv
        have hsz := hbr.size
        have hbw := below_trans hb5w hbr
        have HRr := Lib.hid hR
        have HLK := Lib.hid hlk
        have HRd := Lib.hid hRd
        clear hR hlk hRd
        by_cases hjl : j < h'
        · have hG := HG5.out.below hbr
          have hgn : (gvnL p n' h' M rs n).length = h' := by simp [gvnL]
          have hgj : (gvnL p n' h' M rs n)[j]'(by rw [hgn]; exact hjl) = givenN p n' h' M rs n j := by simp [gvnL]
          obtain ⟨B1, c1, hv, hX⟩ := hG.at_ (k := j) (by rw [hgn]; exact hjl)
          rw [hgj] at hv hX
          rw [givenN_len] at hv
          obtain ⟨gx, -⟩ := hG.cell hv
          have hPT := given_parts (k := j) (rs := rs) (t := n) (n' := n') (h' := h') HPN.out HM.out hn hjl
          have HJN := Lib.hid (fun (W : World) (hb : Below wr.heap.size wr W) (B : Option Addr) (cb : Nat) (hN : NatsAt W B (hsN (M.take n))) => show Calls Tryd.prog 44 #[planV p n h, planV p n' h', .slice B n cb, .slice B1 n c1] W (NewShrE ((j + 1 : Nat) : Int) (joinV p (wsN p (hsN (M.take n)) 0) (fun i => vN (givenN p n' h' M rs n j) i) n) 0 W) from
            join_made p n h n' h' (j + 1) a.length n B B1 cb c1 (hsN (M.take n)) (givenN p n' h' M rs n j) W HPN.out HPN'.out (HBS.out.below (below_trans hbw hb) HBS.out.1) hN (hX.below hb) HSS.out.2.1 HSS.out.2.2 hPT (by omega) HSS.out.1 (by rw [givenN_len]) (Nat.le_refl _) (by omega))
          have HTK := Lib.hid (movedN_take (p := p) (n' := n') (h' := h') (M := M) (rs := rs) (t := n) hjl)
          generalize joinV p (wsN p (hsN (M.take n)) 0) (fun i => vN (givenN p n' h' M rs n j) i) n = V at *
          have hp5 := HP5.out.below hbr
          have hq5 := HQ5.out.below hbr
          have y0 := hp5.c0
          have y1 := hp5.c1
          have y2 := hp5.c2
          have y3 := hq5.c0
          have y4 := hq5.c1
          have y5 := hq5.c2
          have lzr := hq5.lt
          have lpr : w.heap.size < wr.heap.size := by omega
          have i3 : (0 : Int) ≤ (j : Int) := by omega
          have i4 : (j : Int) < (h' : Int) := by omega
          clear hG hgj hgn hv hX hPT hp5 hq5
          go_wp2_with fail
          go_region_held3 (fun w' => w'.cell? ⟨w.heap.size, 0, none⟩ = some (.int .i64 (p : Int)) ∧ w'.cell? ⟨w.heap.size, 1, none⟩ = some (.int .i64 (n : Int)) ∧ w'.cell? ⟨w.heap.size, 2, none⟩ = some (.int .i64 (h : Int)) ∧ w'.cell? ⟨w.heap.size + 1, 0, none⟩ = some (.int .i64 (p : Int)) ∧ w'.cell? ⟨w.heap.size + 1, 1, none⟩ = some (.int .i64 (n' : Int)) ∧ w'.cell? ⟨w.heap.size + 1, 2, none⟩ = some (.int .i64 (h' : Int))) (first | (go_keep; done) | (exact ⟨keep_set2 (by dsimp only; omega) t0, keep_set2 (by dsimp only; omega) t1, keep_set2 (by dsimp only; omega) t2, keep_set2 (by dsimp only; omega) t3, keep_set2 (by dsimp only; omega) t4, keep_set2 (by dsimp only; omega) t5⟩))
            (first
              | (go_at_call 80; refine (HHL.out _ (below_trans hbw (by (repeat (first | exact bl_refl _ | apply bl_drew | apply bl_alloc))))).mono ?_; rintro e w8 ⟨HB, hcb, rfl, hN8, hb8⟩; (first
                  | (have hb8' : Below wr.heap.size wr w8 := below_undrew1 hb8)
                  | (have hb8A : Below (wr.alloc shO).heap.size (wr.alloc shO) w8 := below_undrew1 hb8; have hb8' : Below wr.heap.size wr w8 := below_trans (below_alloc _ _) hb8A; have HRz := Lib.hid ((ShCell.new (w := wr) 0 (.slice none 0 0) rfl).below hb8A); have fz0 := HRz.out.frozen 0; have fz1 := HRz.out.frozen 1; have rz0 := HRz.out.c0; have rz1 := HRz.out.c1)); have zd := hb8'.size; have s0 := (hb8'.cell (p := ⟨w.heap.size, 0, none⟩) lpr).trans y0; have s1 := (hb8'.cell (p := ⟨w.heap.size, 1, none⟩) lpr).trans y1; have s2 := (hb8'.cell (p := ⟨w.heap.size, 2, none⟩) lpr).trans y2; have s3 := (hb8'.cell (p := ⟨w.heap.size + 1, 0, none⟩) lzr).trans y3; have s4 := (hb8'.cell (p := ⟨w.heap.size + 1, 1, none⟩) lzr).trans y4; have s5 := (hb8'.cell (p := ⟨w.heap.size + 1, 2, none⟩) lzr).trans y5)
              | (go_at_call 44; refine (HJN.out _ (by (repeat (first | exact bl_refl _ | exact hb8' | apply bl_drew | apply bl_alloc))) HB hcb (hN8.below (by (repeat (first | exact bl_refl _ | apply bl_drew | apply bl_alloc))))).mono ?_; rintro e w9 ⟨SAe, sce, rfl, hSe, hOKe, hOffe, hbe⟩; (first
                  | (have HZ := HRz; have hbe' : Below wr.heap.size wr w9 := below_trans hb8' hbe; have HRy := Lib.hid (HRz.out.below hbe); have fy0 := HRy.out.frozen 0; have fy1 := HRy.out.frozen 1; have ry0 := HRy.out.c0; have ry1 := HRy.out.c1)
                  | (have hbeA : Below (w8.alloc shO).heap.size (w8.alloc shO) w9 := hbe; have hbe' : Below wr.heap.size wr w9 := below_trans hb8' (below_trans (below_alloc _ _) hbeA); have HRy := Lib.hid ((ShCell.new (w := w8) 0 (.slice none 0 0) rfl).below hbeA); have fy0 := HRy.out.frozen 0; have fy1 := HRy.out.frozen 1; have ry0 := HRy.out.c0; have ry1 := HRy.out.c1)
                  | (have hbe' : Below wr.heap.size wr w9 := below_trans hb8' hbe)); have t0 := (hbe'.cell (p := ⟨w.heap.size, 0, none⟩) lpr).trans y0; have t1 := (hbe'.cell (p := ⟨w.heap.size, 1, none⟩) lpr).trans y1; have t2 := (hbe'.cell (p := ⟨w.heap.size, 2, none⟩) lpr).trans y2; have t3 := (hbe'.cell (p := ⟨w.heap.size + 1, 0, none⟩) lzr).trans y3; have t4 := (hbe'.cell (p := ⟨w.heap.size + 1, 1, none⟩) lzr).trans y4; have t5 := (hbe'.cell (p := ⟨w.heap.size + 1, 2, none⟩) lzr).trans y5))
          all_goals refine gen_last fun wf hwf => ?_
          · have hN9 : ShNew wr wf w9.heap.size ((j : Int) + 1) SAe sce V := hwf ▸ ShNew.late hbe' hSe hOKe (fun b off e => by have := hOffe b off e; omega)
            obtain ⟨g, hg⟩ : ∃ g, g = w9.heap.size := ⟨_, rfl⟩
            rw [← hg] at hN9 ⊢
            clear hg hwf
            have g0 := hN9.cell.c0
            have g1 := hN9.cell.c1
            have lg := hN9.cell.lt
            have HN9 := Lib.hid hN9
            have hz9 := hN9.below.size
            obtain ⟨W, hW⟩ : ∃ W, W = wf.alloc (.cells #[.int .i64 ((j : Int) + 1), .slice SAe V.length sce] 53) := ⟨_, rfl⟩
            have hbW : Below wr.heap.size wr W := by rw [hW]; exact bl_alloc _ hN9.below
            have hWz : wf.heap.size ≤ W.heap.size := by rw [hW]; exact (below_alloc _ _).size
            obtain ⟨H, e1, e2, e3⟩ := (HRr.out.below hbW).ex
            have HE3 := Lib.hid (And.intro e1 (And.intro e2 e3))
            have hHl : H.length ≤ 100000 := by rw [e2, HLK.out]; omega
            clear e2 e3 hN9 hOffe hSe hOKe
            subst hW
            go_wp2_with (at_builtin; refine app_hv rfl (.tmp 105) (.tmp 107) rfl (base := w5.heap.size) (H := H) (v := .slice OA j oc) (((j : Int) + 1), .slice SAe V.length sce) rfl e1 rfl (heap_alloc_new _ _) rfl (by omega) (by omega) ?_; intro v4 wg hown4 hg4 hb4 hv4)
            have HB4 := Lib.hid (hbr.trans ((hbW.mono hsz).trans hb4))
            have HR4 := Lib.hid (RowsV.put (x := j + 1) HRr.out HN9.out hsz rfl HE3.out hown4 hg4 hv4 HTK.out)
            clear hown4 hg4 hv4 e1
            go_roundw
            case rel => exact ⟨j + 1, by omega, by go_num, HR4.out, HB4.out⟩
            case measure => simp [intOf]; omega
          · have hN9 : ShNew wr wf w8.heap.size ((j : Int) + 1) SAe sce V := hwf ▸ ShNew.early (ShCell.new (w := w8) 0 (.slice none 0 0) rfl) zd (bl_alloc _ hb8') hbe hSe hOKe hOffe
            obtain ⟨g, hg⟩ : ∃ g, g = w8.heap.size := ⟨_, rfl⟩
            rw [← hg] at hN9 ⊢
            clear hg hwf
            have g0 := hN9.cell.c0
            have g1 := hN9.cell.c1
            have lg := hN9.cell.lt
            have HN9 := Lib.hid hN9
            have hz9 := hN9.below.size
            obtain ⟨W, hW⟩ : ∃ W, W = wf.alloc (.cells #[.int .i64 ((j : Int) + 1), .slice SAe V.length sce] 53) := ⟨_, rfl⟩
            have hbW : Below wr.heap.size wr W := by rw [hW]; exact bl_alloc _ hN9.below
            have hWz : wf.heap.size ≤ W.heap.size := by rw [hW]; exact (below_alloc _ _).size
            obtain ⟨H, e1, e2, e3⟩ := (HRr.out.below hbW).ex
            have HE3 := Lib.hid (And.intro e1 (And.intro e2 e3))
            have hHl : H.length ≤ 100000 := by rw [e2, HLK.out]; omega
            clear e2 e3 hN9 hOffe hSe hOKe
            subst hW
            go_wp2_with (at_builtin; refine app_hv rfl (.tmp 105) (.tmp 107) rfl (base := w5.heap.size) (H := H) (v := .slice OA j oc) (((j : Int) + 1), .slice SAe V.length sce) rfl e1 rfl (heap_alloc_new _ _) rfl (by omega) (by omega) ?_; intro v4 wg hown4 hg4 hb4 hv4)
            have HB4 := Lib.hid (hbr.trans ((hbW.mono hsz).trans hb4))
            have HR4 := Lib.hid (RowsV.put (x := j + 1) HRr.out HN9.out hsz rfl HE3.out hown4 hg4 hv4 HTK.out)
            clear hown4 hg4 hv4 e1
            go_roundw
            case rel => exact ⟨j + 1, by omega, by go_num, HR4.out, HB4.out⟩
            case measure => simp [intOf]; omega
          · have hN9 : ShNew wr wf wr.heap.size ((j : Int) + 1) SAe sce V := hwf ▸ ShNew.early HRz.out (Nat.le_refl _) hb8' hbe hSe hOKe hOffe
            obtain ⟨g, hg⟩ : ∃ g, g = wr.heap.size := ⟨_, rfl⟩
            rw [← hg] at hN9 ⊢
            clear hg hwf
            have g0 := hN9.cell.c0
            have g1 := hN9.cell.c1
            have lg := hN9.cell.lt
            have HN9 := Lib.hid hN9
            have hz9 := hN9.below.size
            obtain ⟨W, hW⟩ : ∃ W, W = wf.alloc (.cells #[.int .i64 ((j : Int) + 1), .slice SAe V.length sce] 53) := ⟨_, rfl⟩
            have hbW : Below wr.heap.size wr W := by rw [hW]; exact bl_alloc _ hN9.below
            have hWz : wf.heap.size ≤ W.heap.size := by rw [hW]; exact (below_alloc _ _).size
            obtain ⟨H, e1, e2, e3⟩ := (HRr.out.below hbW).ex
            have HE3 := Lib.hid (And.intro e1 (And.intro e2 e3))
            have hHl : H.length ≤ 100000 := by rw [e2, HLK.out]; omega
            clear e2 e3 hN9 hOffe hSe hOKe
            subst hW
            go_wp2_with (at_builtin; refine app_hv rfl (.tmp 105) (.tmp 107) rfl (base := w5.heap.size) (H := H) (v := .slice OA j oc) (((j : Int) + 1), .slice SAe V.length sce) rfl e1 rfl (heap_alloc_new _ _) rfl (by omega) (by omega) ?_; intro v4 wg hown4 hg4 hb4 hv4)
            have HB4 := Lib.hid (hbr.trans ((hbW.mono hsz).trans hb4))
            have HR4 := Lib.hid (RowsV.put (x := j + 1) HRr.out HN9.out hsz rfl HE3.out hown4 hg4 hv4 HTK.out)
            clear hown4 hg4 hv4 e1
            go_roundw
            case rel => exact ⟨j + 1, by omega, by go_num, HR4.out, HB4.out⟩
            case measure => simp [intOf]; omega
        · obtain rfl : j = h' := by omega
          have hX := HRd.out
          rw [List.take_of_length_le (by rw [movedN_len]; exact Nat.le_refl _)] at hX
          have hz6 := hb5w.size
          have HX := Lib.hid (hX.mono (Q := fun b => w.heap.size ≤ b) (fun b _ hb => by omega))
          clear hX
          go_wp2_with fail
          go_ret2
          exact ⟨OA, oc, rfl, HX.out, hbw⟩
end Go.Proofs.YtlhipgejiacklaaDoor
namespace Go.Proofs.YtlhipgejiacklaaDoor
open Go.RowKit
attribute [local go_sem high] sliced_low

theorem elems_new {D n p : Nat} {w w' : World} {e : Ending} (h : ElemsP D n p w e w') :
    ∃ A c L R', e = .returned (.slice A L.length c) ∧ L.length = n ∧ (∀ x ∈ L, x < p) ∧ SlOK A c L ∧ IntsP (fun b => w.heap.size ≤ b) w' A c (ofN L) ∧ DiceAt w' D R' ∧ w.grownBy w' (some D) := by
  obtain ⟨v, L, R', rfl, hL, hp, hown, hd, hg⟩ := h
  obtain ⟨A, c, rfl, h1, h2, h3⟩ := own_sl hown rfl
  exact ⟨A, c, L, R', rfl, hL, hp, h2, ⟨h1.ints, by rw [len_ofN]; exact h2.iok, fun b off e => .inr (h3 b off e).1⟩, hd, hg⟩
theorem rands_of {p n' m t : Nat} {rs : List (List Nat)} (ht : t ≤ rs.length) (h : ∀ r ∈ rs, r.length = m * (n' - 1) ∧ ∀ x ∈ r, x < p) : Rands p n' m t rs := by
  have key : ∀ i, i < t → rs.getD i [] ∈ rs := fun i hi => by
    rw [List.getD_eq_getElem?_getD, List.getElem?_eq_getElem (show i < rs.length by omega)]
    exact List.getElem_mem _
  exact ⟨fun i hi => (h _ (key i hi)).1, fun i hi => (h _ (key i hi)).2⟩
theorem lst_two {W : World} {g a b : Nat} {X Y : List Nat} (hg : W.heap[g]? = some (.cells #[.slice (some ⟨a, 0, none⟩) X.length X.length, .slice (some ⟨b, 0, none⟩) Y.length Y.length] 22 (0, 0))) (ha : NatBlk W a X) (hb : NatBlk W b Y) (hx : X.length ≤ 100) (hy : Y.length ≤ 100) :
    LstP (fun _ => True) W (some ⟨g, 0, none⟩) 2 [X, Y] := by
  have hlt := blk_lt hg
  have sa := SlOK.own ha (by unfold maxLen; omega)
  have sb := SlOK.own hb (by unfold maxLen; omega)
  refine ⟨fun k hk => ?_, ⟨by simp, by unfold maxLen; omega, (fun e => by cases e), .inr (fun a e => by injection e with e; subst e; rfl)⟩⟩
  have : k = 0 ∨ k = 1 := by simp at hk; omega
  rcases this with rfl | rfl
  · exact ⟨g, 0, some ⟨a, 0, none⟩, X.length, rfl, hlt, trivial, by rw [cell_of_row W g _ _ _ (0, 0) hg]; rfl, sa, ⟨ha.nats.ints, by rw [len_ofN]; exact sa.iok, fun _ _ _ => .inr trivial⟩⟩
  · exact ⟨g, 0, some ⟨b, 0, none⟩, Y.length, rfl, hlt, trivial, by rw [cell_of_row W g _ _ _ (0, 0) hg]; rfl, sb, ⟨hb.nats.ints, by rw [len_ofN]; exact sb.iok, fun _ _ _ => .inr trivial⟩⟩
theorem heap_at (w : World) (o : Obj) (g : Nat) (h : g = w.heap.size) : (w.alloc o).heap[g]? = some o := by subst h; exact heap_alloc_new w o
theorem lit2_at (w : World) (g x y : Nat) (h : g = w.heap.size) : NatBlk (w.alloc (.cells #[.int .i64 (x : Int), .int .i64 (y : Int)] 3)) g [x, y] := by subst h; exact lit2_nats w x y
theorem plan_1123 : PlanN 11 2 3 := PlanN.mk' prime_11 (by omega) (by omega) (by omega) (by omega) (by omega)
theorem plan_1135 : PlanN 11 3 5 := PlanN.mk' prime_11 (by omega) (by omega) (by omega) (by omega) (by omega)
def mbN : List ShN := dealN 11 2 3 [7] [4]
theorem mb_full : Full 11 2 3 [7] mbN := Full.deal plan_1123 (by simp) (by simp)
theorem Part.drop (N : List ShN) (k : Nat) : Part (N.drop k) N := ⟨N.drop k ++ N.take k, List.perm_append_comm.trans (by rw [List.take_append_drop]), (List.take_left).symm⟩
theorem mb_made : Made 11 2 3 [7] (mbN.drop 1) := mb_full.made.part (Part.drop _ _)
theorem mb_len : (mbN.drop 1).length = 2 := by rw [List.length_drop, mb_full.len]
def mvN : List ShN := movedN 11 3 5 (mbN.drop 1) [[1, 2], [3, 4]] 2
theorem mv_rands : Rands 11 3 ([7] : List Nat).length 2 [[1, 2], [3, 4]] := rands_of (by simp) (by
  intro r hr
  simp at hr
  rcases hr with rfl | rfl <;> exact ⟨rfl, by simp⟩)
theorem mv_full : Full 11 3 5 [7] mvN := moved_full plan_1123 plan_1135 mb_made (by simp) (Nat.le_refl _) (by rw [mb_len]; omega) mv_rands

set_option maxRecDepth 100000 in
set_option maxHeartbeats 4000000 in
theorem awake9 (w : World) (hB : Bases w) : Calls Tryd.prog 40 #[] w (RetB (.bool true) w) := by
  have HD := Lib.hid (fun (W : World) (A B : Option Addr) (h1 : NatsAt W A [7]) (h2 : NatsAt W B [4]) (h3 : SlOK B 1 [4]) => show Calls Tryd.prog 31 #[planV 11 2 3, .slice A 1 1, .slice B 1 1] W (DealR mbN 3 W) from
    refDeal_made plan_1123 h1 h2 h3 (by simp) (by simp) (by simp) (by simp) (by simp) (by simp) (by simp))
  have HMV := Lib.hid (fun (W : World) (h0 : Below w.heap.size w W) (A B : Option Addr) (ca cb : Nat) (P P' : Nat → Prop) (h1 : ShP P W A ca (shL (mbN.drop 1))) (h2 : LstP P' W B cb [[1, 2], [3, 4]]) => show Calls Tryd.prog 46 #[planV 11 2 3, planV 11 3 5, .slice A 2 ca, .slice B 2 cb] W (DealR mvN 5 W) from
    move_made (P := P) (P' := P') 11 2 3 3 5 A B ca cb 2 2 [7] (mbN.drop 1) [[1, 2], [3, 4]] W plan_1123 plan_1135 (hB.below h0 hB.1) mb_made (by simp) h1 h2 (by rw [mb_len]; omega) (by rw [mb_len]; omega) mb_len.symm (by simp) (by simp) (by simp) mv_rands)
  have HCO := Lib.hid (fun (W : World) (A : Option Addr) (ca : Nat) (P : Nat → Prop) (h1 : ShP P W A ca (shL mvN)) => show Calls Tryd.prog 27 #[planV 11 3 5, .slice A 5 ca] W (ListErr [7] 0 W) from
    refCombine_made mv_full.made plan_1135 A ca 5 W h1 (by simp) (by rw [mv_full.len]; omega) mv_full.len.symm (by rw [mv_full.len]; omega))
  clear hB
  go_enter Tryd.func40, Tryd.ntmps40
  go_wp2_with fail
  refine gen_calls fun w1 hw1 => ?_
  have hP1 : PlanCell w1 w.heap.size 11 2 3 := by rw [hw1]; exact (((PlanCell.new _ _ _ rfl).alloc _).alloc _).alloc _
  have hQ1 : PlanCell w1 (w.heap.size + 1) 11 3 5 := by rw [hw1]; exact ((PlanCell.new _ _ _ (by simp)).alloc _).alloc _
  have hn3 : NatBlk w1 (w.heap.size + 1 + 1) [7] := by rw [hw1]; exact (lit1_at _ _ _ (by simp)).below (below_alloc _ _)
  have hn4 : NatBlk w1 (w.heap.size + 1 + 1 + 1) [4] := by rw [hw1]; exact lit1_at _ _ _ (by simp)
  have hb1 : Below w.heap.size w w1 := by rw [hw1]; exact bl_alloc _ (bl_alloc _ (bl_alloc _ (below_alloc _ _)))
  clear hw1
  refine (HD.out _ _ _ hn3.nats hn4.nats (SlOK.own hn4 (by unfold maxLen; simp))).mono ?_
  rintro e w2 ⟨LA, lc, rfl, hL, hb2⟩
  have hb2w := below_trans hb1 hb2
  have HP2 := Lib.hid (hP1.below hb2)
  have HQ2 := Lib.hid (hQ1.below hb2)
  have p0 := HP2.out.c0
  have p1 := HP2.out.c1
  have p2 := HP2.out.c2
  have q0 := HQ2.out.c0
  have q1 := HQ2.out.c1
  have q2 := HQ2.out.c2
  obtain ⟨lb, lo, B0, c0', rfl, -⟩ := hL.nat (show 0 < mbN.length by rw [mb_full.len]; omega)
  have hlc := hL.cap
  rw [mb_full.len] at hlc
  have HLD := Lib.hid (hL.drop (show 1 < mbN.length by rw [mb_full.len]; omega)).any
  have hlc2 : (3 : Int) ≤ (lc : Int) := by omega
  have hlc1 : ¬ lc = 1 := by omega
  have lq2 := HQ2.out.lt
  have lp2 := HP2.out.lt
  clear hP1 hQ1 hn3 hn4 hb1 hb2 hL
  go_wp2_with fail
  go_region_held3 (fun w' => w'.cell? ⟨w.heap.size, 0, none⟩ = some (.int .i64 11) ∧ w'.cell? ⟨w.heap.size, 1, none⟩ = some (.int .i64 2) ∧ w'.cell? ⟨w.heap.size, 2, none⟩ = some (.int .i64 3) ∧ w'.cell? ⟨w.heap.size + 1, 0, none⟩ = some (.int .i64 11) ∧ w'.cell? ⟨w.heap.size + 1, 1, none⟩ = some (.int .i64 3) ∧ w'.cell? ⟨w.heap.size + 1, 2, none⟩ = some (.int .i64 5)) (first | (go_keep; done) | exact ⟨(Below.cell (w := w2) (p := ⟨w.heap.size, 0, none⟩) (by (repeat (first | exact bl_refl _ | apply bl_drew | apply bl_alloc))) lp2).trans p0, (Below.cell (w := w2) (p := ⟨w.heap.size, 1, none⟩) (by (repeat (first | exact bl_refl _ | apply bl_drew | apply bl_alloc))) lp2).trans p1, (Below.cell (w := w2) (p := ⟨w.heap.size, 2, none⟩) (by (repeat (first | exact bl_refl _ | apply bl_drew | apply bl_alloc))) lp2).trans p2, (Below.cell (w := w2) (p := ⟨w.heap.size + 1, 0, none⟩) (by (repeat (first | exact bl_refl _ | apply bl_drew | apply bl_alloc))) lq2).trans q0, (Below.cell (w := w2) (p := ⟨w.heap.size + 1, 1, none⟩) (by (repeat (first | exact bl_refl _ | apply bl_drew | apply bl_alloc))) lq2).trans q1, (Below.cell (w := w2) (p := ⟨w.heap.size + 1, 2, none⟩) (by (repeat (first | exact bl_refl _ | apply bl_drew | apply bl_alloc))) lq2).trans q2⟩)
    (first
      | (go_at_call 46; (try rw [if_neg hlc1]); have hbW : Below w2.heap.size w2 _ := (by (repeat (first | exact bl_refl _ | apply bl_drew | apply bl_alloc)) : Below w2.heap.size w2 (((w2.alloc (.cells #[.int .i64 1, .int .i64 2] 3)).alloc (.cells #[.int .i64 3, .int .i64 4] 3)).alloc (.cells #[.slice (some ⟨w2.heap.size, 0, none⟩) 2 2, .slice (some ⟨w2.heap.size + 1, 0, none⟩) 2 2] 22)).drew); refine (HMV.out _ (below_trans hb2w hbW) _ _ _ _ _ _ (HLD.out.below hbW) (((lst_two (W := ((w2.alloc (.cells #[.int .i64 1, .int .i64 2] 3)).alloc (.cells #[.int .i64 3, .int .i64 4] 3)).alloc (.cells #[.slice (some ⟨w2.heap.size, 0, none⟩) 2 2, .slice (some ⟨w2.heap.size + 1, 0, none⟩) 2 2] 22)) (a := w2.heap.size) (b := w2.heap.size + 1) (X := [1, 2]) (Y := [3, 4]) (g := w2.heap.size + 1 + 1) (heap_at _ _ _ (by simp)) (((lit2_nats w2 1 2).below (below_alloc _ _)).below (below_alloc _ _)) ((lit2_at _ _ _ _ (by simp)).below (below_alloc _ _)) (by simp) (by simp)).below (below_drewT _)))).mono ?_; rintro e w3 ⟨MA, mc, rfl, hM, hb3⟩; have hb3' : Below w2.heap.size w2 w3 := below_trans hbW hb3; have t0 := (hb3'.cell (p := ⟨w.heap.size, 0, none⟩) lp2).trans p0; have t1 := (hb3'.cell (p := ⟨w.heap.size, 1, none⟩) lp2).trans p1; have t2 := (hb3'.cell (p := ⟨w.heap.size, 2, none⟩) lp2).trans p2; have t3 := (hb3'.cell (p := ⟨w.heap.size + 1, 0, none⟩) lq2).trans q0; have t4 := (hb3'.cell (p := ⟨w.heap.size + 1, 1, none⟩) lq2).trans q1; have t5 := (hb3'.cell (p := ⟨w.heap.size + 1, 2, none⟩) lq2).trans q2)
      | (go_at_call 46; (try rw [if_neg hlc1]); have hbW : Below w2.heap.size w2 _ := (by (repeat (first | exact bl_refl _ | apply bl_drew | apply bl_alloc)) : Below w2.heap.size w2 (((w2.alloc (.cells #[.int .i64 3, .int .i64 4] 3)).alloc (.cells #[.int .i64 1, .int .i64 2] 3)).alloc (.cells #[.slice (some ⟨w2.heap.size + 1, 0, none⟩) 2 2, .slice (some ⟨w2.heap.size, 0, none⟩) 2 2] 22)).drew); refine (HMV.out _ (below_trans hb2w hbW) _ _ _ _ _ _ (HLD.out.below hbW) (((lst_two (W := ((w2.alloc (.cells #[.int .i64 3, .int .i64 4] 3)).alloc (.cells #[.int .i64 1, .int .i64 2] 3)).alloc (.cells #[.slice (some ⟨w2.heap.size + 1, 0, none⟩) 2 2, .slice (some ⟨w2.heap.size, 0, none⟩) 2 2] 22)) (a := w2.heap.size + 1) (b := w2.heap.size) (X := [1, 2]) (Y := [3, 4]) (g := w2.heap.size + 1 + 1) (heap_at _ _ _ (by simp)) ((lit2_at _ _ _ _ (by simp)).below (below_alloc _ _)) (((lit2_nats w2 3 4).below (below_alloc _ _)).below (below_alloc _ _)) (by simp) (by simp)).below (below_drewT _)))).mono ?_; rintro e w3 ⟨MA, mc, rfl, hM, hb3⟩; have hb3' : Below w2.heap.size w2 w3 := below_trans hbW hb3; have t0 := (hb3'.cell (p := ⟨w.heap.size, 0, none⟩) lp2).trans p0; have t1 := (hb3'.cell (p := ⟨w.heap.size, 1, none⟩) lp2).trans p1; have t2 := (hb3'.cell (p := ⟨w.heap.size, 2, none⟩) lp2).trans p2; have t3 := (hb3'.cell (p := ⟨w.heap.size + 1, 0, none⟩) lq2).trans q0; have t4 := (hb3'.cell (p := ⟨w.heap.size + 1, 1, none⟩) lq2).trans q1; have t5 := (hb3'.cell (p := ⟨w.heap.size + 1, 2, none⟩) lq2).trans q2))
  all_goals
    have hb3w := below_trans hb2w hb3'
    have HM3 := Lib.hid hM
    have HP3 := Lib.hid (HP2.out.below hb3')
    have HQ3 := Lib.hid (HQ2.out.below hb3')
    clear hM
    go_wp2_with fail
    refine (HCO.out _ _ _ _ HM3.out).mono ?_
    rintro e w4 ⟨XA, xc, rfl, hX, -, -, hb4⟩
    obtain ⟨xb, xo, rfl, hxl, x0⟩ := hX 0 (by simp)
    simp [nthN] at x0
    have hb4w := below_trans hb3w hb4
    clear hX
    go_wp2_with fail
    go_ret
    exact RetB.bool rfl hb4w
end Go.Proofs.YtlhipgejiacklaaDoor
namespace Go.Proofs.YtlhipgejiacklaaDoor
open Go.RowKit

def setP (w : World) (x : Nat) (p n h : Int) : World := ((w.setCell ⟨x, 0, none⟩ (.int .i64 p)).setCell ⟨x, 1, none⟩ (.int .i64 n)).setCell ⟨x, 2, none⟩ (.int .i64 h)
theorem setP_size (w : World) (x : Nat) (p n h : Int) : (setP w x p n h).heap.size = w.heap.size := by simp [setP, World.setCell]
theorem setP_block (w : World) (x : Nat) (p n h : Int) (k : Nat) (hk : k ≠ x) : (setP w x p n h).heap[k]? = w.heap[k]? := by
  unfold setP
  exact ((Below.heap_setCell _ _ _ k (by dsimp only; exact hk)).trans (Below.heap_setCell _ _ _ k (by dsimp only; exact hk))).trans (Below.heap_setCell _ _ _ k (by dsimp only; exact hk))
theorem setP_below {w w' : World} {B x : Nat} (hb : Below B w w') (hx : B ≤ x) (p n h : Int) : Below B w (setP w' x p n h) :=
  ⟨hb.os, hb.tape, hb.output, by rw [setP_size]; exact hb.size, fun k hk => (setP_block w' x p n h k (by omega)).trans (hb.block k hk)⟩
theorem setP_kept (w : World) (x D : Nat) (p n h : Int) : Kept (fun b => b ≠ D ∧ b ≠ x) w (setP w x p n h) := ⟨Nat.le_of_eq (setP_size w x p n h).symm, fun b hb _ => setP_block w x p n h b hb.2⟩
theorem PlanCell.setP {w : World} {x : Nat} {p n h : Int} (H : PlanCell w x p n h) (p' n' h' : Int) : PlanCell (setP w x p' n' h') x p' n' h' := H.fill p' n' h'
theorem Kept.mv2 {D : Nat} {X : Nat → Prop} {w w' : World} (hg : w.grownBy w' (some D)) : Kept (fun b => b ≠ D ∧ X b) w w' := ⟨hg.size, fun b hb hlt => hg.block b hlt (fun e => by injection e with e; exact hb.1 e)⟩
theorem Kept.lo {D B : Nat} {X : Nat → Prop} {w w' : World} (hb : Below B w w') : Kept (fun b => b ≠ D ∧ X b ∧ b < B) w w' := ⟨hb.size, fun b h _ => hb.block b h.2.2⟩
theorem Held.intsP {w : World} {D : Nat} {A : Option Addr} {c : Nat} {L : List Nat} (h : Held w D A c L) : IntsP (fun b => b ≠ D ∧ b < w.heap.size) w A c (ofN L) := ⟨h.nats.ints, by rw [len_ofN]; exact h.ok.iok, fun b off e => by
  rcases Nat.eq_zero_or_pos L.length with h0 | h0
  · exact .inl (by rw [len_ofN]; exact h0)
  · obtain ⟨b1, o1, e1, hlt, -⟩ := h.nats 0 h0
    rw [e1] at e
    injection e with e; injection e with e2 e3
    subst e2
    exact .inr ⟨h.off _ _ e1, hlt⟩⟩
end Go.Proofs.YtlhipgejiacklaaDoor
namespace Go.Proofs.YtlhipgejiacklaaDoor
open Go.RowKit

/-- One list for each new holder: rows of the own, none in another. -/
structure GivenX (w : World) (base g : Nat) (X : Nat → Prop) (Vs : List Value) (Ns : List (List ShN)) : Prop where
  xg : X g
  xo : ∀ u ∈ Vs, ∀ b, u.ownBlock = some b → X b
  blk : w.heap[g]? = some (.cells Vs.toArray 31 (0, 0))
  low : base ≤ g
  len : Vs.length = Ns.length
  row : ∀ (k : Nat) (v : Value) (N : List ShN), Vs[k]? = some v → Ns[k]? = some N → RowsV (fun b => (base ≤ b ∧ X b) ∧ b ≠ g ∧ ∀ u ∈ Vs, u.ownBlock ≠ some b) w base v (shL N)
  no : ∀ u ∈ Vs, u.ownBlock ≠ some g
  ne : ∀ (i j : Nat) (u v : Value), Vs[i]? = some u → Vs[j]? = some v → i ≠ j → ∀ b, u.ownBlock = some b → v.ownBlock ≠ some b
theorem GivenX.lt {w : World} {base g : Nat} {X : Nat → Prop} {Vs : List Value} {Ns : List (List ShN)} (h : GivenX w base g X Vs Ns) : g < w.heap.size := blk_lt h.blk
theorem GivenX.below {w w' : World} {base g : Nat} {X : Nat → Prop} {Vs : List Value} {Ns : List (List ShN)} (h : GivenX w base g X Vs Ns) (hb : Below w.heap.size w w') : GivenX w' base g X Vs Ns :=
  ⟨h.xg, h.xo, (hb.block g h.lt).trans h.blk, h.low, h.len, fun k v N h1 h2 => (h.row k v N h1 h2).below hb, h.no, h.ne⟩
theorem GivenX.new {w : World} {base g n : Nat} {X : Nat → Prop} (hx : X g) (hg : w.heap[g]? = some (.cells (List.replicate n (Value.slice none 0 0)).toArray 31 (0, 0))) (hb : base ≤ g) : GivenX w base g X (List.replicate n (.slice none 0 0)) (List.replicate n []) := by
  refine ⟨hx, (fun u hu b hb => by rw [List.eq_of_mem_replicate hu] at hb; cases hb), hg, hb, by simp, fun k v N h1 h2 => ?_, fun u hu => ?_, fun i j u v h1 h2 _ b hb => ?_⟩
  · have e1 := List.eq_of_mem_replicate (List.mem_of_getElem? h1)
    have e2 := List.eq_of_mem_replicate (List.mem_of_getElem? h2)
    subst e1 e2
    exact RowsV.nil _ _ _
  · rw [List.eq_of_mem_replicate hu]; simp [Value.ownBlock]
  · rw [List.eq_of_mem_replicate (List.mem_of_getElem? h1)] at hb; cases hb
theorem GivenX.cell {w : World} {base g k : Nat} {X : Nat → Prop} {Vs : List Value} {Ns : List (List ShN)} {v : Value} (h : GivenX w base g X Vs Ns) (hk : Vs[k]? = some v) : w.cell? ⟨g, k, none⟩ = some v ∧ w.frozen? ⟨g, k, none⟩ = false := by
  refine ⟨?_, frozen_of_row w g k _ _ h.blk⟩
  rw [cell_of_row w g k _ _ (0, 0) h.blk]
  simpa using hk
theorem GivenX.at_ {w : World} {base g k : Nat} {X : Nat → Prop} {Vs : List Value} {Ns : List (List ShN)} (h : GivenX w base g X Vs Ns) (hk : k < Ns.length) : ∃ A c, Vs[k]? = some (.slice A Ns[k].length c) ∧ ShP (fun b => base ≤ b) w A c (shL Ns[k]) := by
  have hk' : k < Vs.length := by rw [h.len]; exact hk
  have hR := h.row k Vs[k] Ns[k] (List.getElem?_eq_getElem hk') (List.getElem?_eq_getElem hk)
  obtain ⟨A, c, e, hS⟩ := hR.read
  rw [shL_len] at e
  exact ⟨A, c, by rw [List.getElem?_eq_getElem hk', e], hS.mono (fun b _ hb => hb.elim id (fun hb => hb.1.1))⟩
theorem GivenX.add {W w' : World} {base g k : Nat} {X : Nat → Prop} {Vs : List Value} {Ns : List (List ShN)} {v v' : Value} {N : List ShN} {H : List HV} {x : Nat} {L : List Nat} {B : Option Addr} {c : Nat} (h : GivenX W base g X Vs Ns) (hk : Vs[k]? = some v)
    (e2 : H.length = (shL N).length) (e3 : ∀ j, j < (shL N).length → (hvAt H j).1 = hS (shL N) j ∧ ∃ B c, (hvAt H j).2 = .slice B (vS (shL N) j).length c ∧ IntsP (fun b => ((base ≤ b ∧ X b) ∧ b ≠ g ∧ ∀ u ∈ Vs, u.ownBlock ≠ some b) ∧ v.ownBlock ≠ some b) W B c (vS (shL N) j))
    (hI : IntsP (fun b => (base ≤ b ∧ X b) ∧ b ≠ g ∧ ∀ u ∈ Vs, u.ownBlock ≠ some b) W B c (ofN L)) (hown : HvOwn w' base v' (H ++ [((x : Int), .slice B L.length c)])) (hg : W.grownBy w' v.ownBlock) (hv : ∀ b, v'.ownBlock = some b → v.ownBlock = some b ∨ W.heap.size ≤ b) (hX : ∀ b, W.heap.size ≤ b → X b) :
    GivenX (w'.setCell ⟨g, k, none⟩ v') base g X (Vs.set k v') (Ns.set k (N ++ [(x, L)])) := by
  have hkl : k < Vs.length := by
    rcases Nat.lt_or_ge k Vs.length with h1 | h1
    · exact h1
    · rw [List.getElem?_eq_none h1] at hk; cases hk
  have hmem : v ∈ Vs := List.mem_of_getElem? hk
  have hgW := h.lt
  have hvg : v.ownBlock ≠ some g := h.no v hmem
  have hv'g : v'.ownBlock ≠ some g := fun e => by
    rcases hv g e with e | e
    · exact hvg e
    · omega
  have hblk : w'.heap[g]? = W.heap[g]? := hg.block g hgW (fun e => hvg e.symm)
  -- what is in none of the new ones
  have hnew : ∀ b, b < W.heap.size → (∀ u ∈ Vs, u.ownBlock ≠ some b) → ∀ u ∈ Vs.set k v', u.ownBlock ≠ some b := fun b hlt hb u hu => by
    rcases List.mem_or_eq_of_mem_set hu with h1 | h1
    · exact hb u h1
    · subst h1
      intro e
      rcases hv b e with e | e
      · exact hb v hmem e
      · omega
  refine ⟨h.xg, (fun u hu b hb => by
    rcases List.mem_or_eq_of_mem_set hu with h1 | h1
    · exact h.xo u h1 b hb
    · subst h1
      rcases hv b hb with e | e
      · exact h.xo v hmem b e
      · exact hX b e), ?_, h.low, by simp [h.len], fun j u M h1 h2 => ?_, fun u hu => ?_, fun i j u t h1 h2 hij b hb => ?_⟩
  · have : (w'.setCell ⟨g, k, none⟩ v').heap[g]? = some (.cells (Vs.toArray.setIfInBounds k v') 31 (0, 0)) := by
      have e := hblk.trans h.blk
      simp [World.setCell, Array.getElem?_modify, e]
    rw [this]; simp
  · by_cases hjk : k = j
    · subst hjk
      have hkN : k < Ns.length := by rw [← h.len]; exact hkl
      rw [List.getElem?_set_self hkl] at h1
      rw [List.getElem?_set_self hkN] at h2
      injection h1 with h1; injection h2 with h2
      subst h1 h2
      have hm := RowsV.more2 (Q := fun b => (base ≤ b ∧ X b) ∧ b ≠ g ∧ ∀ u ∈ Vs, u.ownBlock ≠ some b) e2 e3 (x : Int) (ofN L) (hI.mono (fun b _ hb => ⟨hb, hb.2.2 v hmem⟩)) (by rw [len_ofN]; exact hown) hg hv
      rw [show shL N ++ [((x : Int), ofN L)] = shL (N ++ [(x, L)]) from by simp [shL, shI]] at hm
      have hm2 := hm.monoQ (Q' := fun b => (base ≤ b ∧ X b) ∧ b ≠ g ∧ ∀ u ∈ Vs.set k v', u.ownBlock ≠ some b) (fun b _ hb hbv => ⟨hb.1, hb.2.1, fun u hu => by
        rcases List.mem_or_eq_of_mem_set hu with h1 | h1
        · exact hb.2.2 u h1
        · subst h1; exact hbv⟩)
      exact hm2.kept (grown_cellSet w' g k v') (by
        rcases hvb : v'.ownBlock with _ | b
        · exact .inl rfl
        · exact .inr (by rw [← hvb]; exact hv'g)) (fun b hb e => hb.2.1 (Option.some.inj e).symm)
    · rw [List.getElem?_set_ne hjk] at h1 h2
      have hR := h.row j u M h1 h2
      have hR1 := hR.monoQ (Q' := fun b => ((base ≤ b ∧ X b) ∧ b ≠ g ∧ ∀ u ∈ Vs.set k v', u.ownBlock ≠ some b) ∧ v.ownBlock ≠ some b) (fun b hlt hb _ => ⟨⟨hb.1, hb.2.1, hnew b hlt hb.2.2⟩, hb.2.2 v hmem⟩)
      have hR2 := hR1.kept hg (by
        rcases hub : u.ownBlock with _ | b
        · exact .inl rfl
        · exact .inr (fun e => h.ne j k u v h1 hk (fun e => hjk e.symm) b hub e.symm)) (fun b hb e => hb.2 e)
      have hR3 := hR2.monoQ (Q' := fun b => (base ≤ b ∧ X b) ∧ b ≠ g ∧ ∀ u ∈ Vs.set k v', u.ownBlock ≠ some b) (fun b _ hb _ => hb.1)
      exact hR3.kept (grown_cellSet w' g k v') (by
        rcases hub : u.ownBlock with _ | b
        · exact .inl rfl
        · exact .inr (by rw [← hub]; exact h.no u (List.mem_of_getElem? h1))) (fun b hb e => hb.2.1 (Option.some.inj e).symm)
  · rcases List.mem_or_eq_of_mem_set hu with h1 | h1
    · exact h.no u h1
    · subst h1; exact hv'g
  · -- two different ones
    have hlt : ∀ (i : Nat) (u : Value), Vs[i]? = some u → ∀ b, u.ownBlock = some b → b < W.heap.size := fun i u hu b hb => by
      have hi : i < Vs.length := by
        rcases Nat.lt_or_ge i Vs.length with h1 | h1
        · exact h1
        · rw [List.getElem?_eq_none h1] at hu; cases hu
      exact ((h.row i u _ hu (List.getElem?_eq_getElem (show i < Ns.length by rw [← h.len]; exact hi))).lt b hb).2
    by_cases hi : k = i
    · subst hi
      rw [List.getElem?_set_self hkl] at h1
      injection h1 with h1
      subst h1
      rw [List.getElem?_set_ne hij] at h2
      rcases hv b hb with e | e
      · exact h.ne k j v t hk h2 hij b e
      · intro e3
        have := hlt j t h2 b e3; omega
    · rw [List.getElem?_set_ne hi] at h1
      by_cases hj : k = j
      · subst hj
        rw [List.getElem?_set_self hkl] at h2
        injection h2 with h2
        subst h2
        intro e3
        rcases hv b e3 with e | e
        · exact h.ne i k u v h1 hk hij b hb e
        · have := hlt i u h1 b hb; omega
      · rw [List.getElem?_set_ne hj] at h2
        exact h.ne i j u t h1 h2 hij b hb
theorem GivenX.mono {w : World} {base g : Nat} {X Y : Nat → Prop} {Vs : List Value} {Ns : List (List ShN)} (h : GivenX w base g X Vs Ns) (hY : ∀ b, b < w.heap.size → X b → Y b) : GivenX w base g Y Vs Ns :=
  ⟨hY g h.lt h.xg, fun u hu b hb => by
    obtain ⟨i, hi, rfl⟩ := List.getElem_of_mem hu
    exact hY b ((h.row i _ _ (List.getElem?_eq_getElem hi) (List.getElem?_eq_getElem (show i < Ns.length by rw [← h.len]; exact hi))).lt b hb).2 (h.xo _ hu b hb), h.blk, h.low, h.len, fun k v N h1 h2 => (h.row k v N h1 h2).monoQ (fun b hlt hb _ => ⟨⟨hb.1.1, hY b hlt hb.1.2⟩, hb.2⟩), h.no, h.ne⟩
/-- What is written lies in none of the blocks that count. -/
theorem GivenX.kept {w w' : World} {base g : Nat} {X : Nat → Prop} {Vs : List Value} {Ns : List (List ShN)} {row : Option Nat} (h : GivenX w base g X Vs Ns) (hg : w.grownBy w' row) (hX : ∀ b, base ≤ b → X b → row ≠ some b) : GivenX w' base g X Vs Ns :=
  ⟨h.xg, h.xo, (hg.block g h.lt (fun e => hX g h.low h.xg e.symm)).trans h.blk, h.low, h.len, fun k v N h1 h2 => (h.row k v N h1 h2).kept hg (by
    rcases hvb : v.ownBlock with _ | b
    · exact .inl rfl
    · exact .inr (fun e => hX b ((h.row k v N h1 h2).lt b hvb).1 (h.xo v (List.mem_of_getElem? h1) b hvb) e.symm)) (fun b hb e => hX b hb.1.1 hb.1.2 e), h.no, h.ne⟩
end Go.Proofs.YtlhipgejiacklaaDoor
namespace Go.Proofs.YtlhipgejiacklaaDoor
open Go.RowKit

set_option maxRecDepth 100000 in
set_option maxHeartbeats 4000000 in
theorem join_few {P : Nat → Prop} (p n h n' h' y m t : Nat) (A B : Option Addr) (ca cb : Nat) (hs : List Nat) (Q : List ShN) (w : World) (PN : PlanN p n h) (PN' : PlanN p n' h') (hB : Bases w) (hA : NatsAt w A hs) (hQ : ShP P w B cb (shL Q))
    (hnd : hs.Nodup) (hr : ∀ x ∈ hs, 1 ≤ x ∧ x ≤ h) (hp : Parts p h' y m Q) (hm : m ≤ 2048) (ht : hs.length = t) (hq : Q.length = t) (hn : t < n) (ht7 : t ≤ 16) :
    Calls Tryd.prog 44 #[planV p n h, planV p n' h', .slice A t ca, .slice B t cb] w (NewShrE 0 [] 5 w) := by
  have hn1 := PN.n1
  have HPL := Lib.hid (fun (W : World) (hb : Below w.heap.size w W) => plans_made p n h n' h' W PN PN' (hB.below hb hB.1))
  have HGV := Lib.hid (fun (W : World) (hb : Below w.heap.size w W) => show Calls Tryd.prog 74 #[planV p n h, .slice A t ca] W (RetB (.bool true) W) from by
    have := givers_any p n h A ca (ofN hs) W (hA.below hb).ints (by have := PN.h7; omega) (by rw [len_ofN]; omega)
    rw [gv_nat hnd hr, len_ofN, ht] at this; exact this)
  have HFT := Lib.hid (fun (W : World) (hb : Below w.heap.size w W) => show Calls Tryd.prog 75 #[planV p n' h', .slice B t cb] W (RetB (.bool true) W) from by
    have := fit_any p n' h' B cb (shL Q) W (hQ.below hb) (short_shL fun k hk => by have := hp.len k hk; omega) (by rw [shL_len]; omega)
    rw [hp.fits, shL_len, hq] at this; exact this)
  have HQ := Lib.hid hQ
  have HPT := Lib.hid hp
  have HQL := Lib.hid hq
  have hp1 := PN.p1
  have hp2 : p ≤ 2147483648 := by have := PN.p2; omega
  clear hA hQ hB hnd hr hp ht hq PN PN'
  go_enter Tryd.func44, Tryd.ntmps44
  go_wp2_with fail
  refine gen_calls fun w1 hw1 => ?_
  have hP : PlanCell w1 w.heap.size p n h := by rw [hw1]; exact ((PlanCell.new _ _ _ rfl).alloc _).alloc _
  have hQ' : PlanCell w1 (w.heap.size + 1) p n' h' := by rw [hw1]; exact (PlanCell.new _ _ _ (by simp)).alloc _
  have hR : ShCell w1 (w.heap.size + 1 + 1) 0 (.slice none 0 0) := by rw [hw1]; exact ShCell.new _ _ (by simp)
  have hb1 : Below w.heap.size w w1 := by rw [hw1]; exact bl_alloc _ (bl_alloc _ (below_alloc _ _))
  clear hw1
  refine ret_below (HPL.out _ hb1) fun w2 hb2 => ?_
  have hb2w := below_trans hb1 hb2
  have hP2 := hP.below hb2
  have hQ2 := hQ'.below hb2
  have hR2 := hR.below hb2
  have p0 := hP2.c0
  have p1 := hP2.c1
  have p2 := hP2.c2
  clear hP hQ' hR hb1 hb2
  go_wp2_with fail
  refine ret_below (HGV.out _ hb2w) fun w3 hb3 => ?_
  have hb3w := below_trans hb2w hb3
  have hP3 := hP2.below hb3
  have hQ3 := hQ2.below hb3
  have hR3 := hR2.below hb3
  have q0 := hQ3.c0
  have q1 := hQ3.c1
  have q2 := hQ3.c2
  clear p0 p1 p2 hP2 hQ2 hR2 hb2w hb3
  go_wp2_with fail
  refine ret_below (HFT.out _ hb3w) fun w4 hb4 => ?_
  have hb4w := below_trans hb3w hb4
  have hP4 := hP3.below hb4
  have hR4 := hR3.below hb4
  have p0 := hP4.c0
  have p1 := hP4.c1
  have p2 := hP4.c2
  clear q0 q1 q2 hP3 hQ3 hR3 hb3w hb4
  have s0 := hR4.c0
  have s1 := hR4.c1
  have f0 := hR4.frozen 0
  have f1 := hR4.frozen 1
  have hz4 := hb4w.size
  have hR4 := Lib.hid hR4
  go_wp2_with fail
  refine bodyPost_ret (results_shr2 rfl _ _ (w.heap.size + 1 + 1) rfl (shcell_fill hR4.out 0 _)) rfl ?_
  exact ⟨none, 0, rfl, NatsAt.nil _ _, SlOK.none0, (fun b off e => by cases e), below_set2 hb4w (by omega) _ _⟩
theorem given_app {p n' h' : Nat} {M : List ShN} {rs : List (List Nat)} {x : List Nat} {t k : Nat} (ht : t ≤ rs.length) : givenN p n' h' M (rs ++ [x]) t k = givenN p n' h' M rs t k := by
  unfold givenN
  refine List.map_congr_left fun i hi => ?_
  have hi := List.mem_range.1 hi
  rw [show (rs ++ [x]).getD i [] = rs.getD i [] from by simp [List.getD_eq_getElem?_getD, List.getElem?_append_left (show i < rs.length by omega)]]
theorem gvn_app {p n' h' : Nat} {M : List ShN} {rs : List (List Nat)} {x : List Nat} {t : Nat} (ht : t ≤ rs.length) : gvnL p n' h' M (rs ++ [x]) t = gvnL p n' h' M rs t := by
  unfold gvnL
  exact List.map_congr_left fun q _ => given_app ht
theorem getD_last {rs : List (List Nat)} {x : List Nat} {t : Nat} (ht : rs.length = t) : (rs ++ [x]).getD t [] = x := by subst ht; simp [List.getD_eq_getElem?_getD]
theorem given_take {p n' h' : Nat} {M : List ShN} {rs : List (List Nat)} {t s k : Nat} (h : s ≤ t) : (givenN p n' h' M rs t k).take s = givenN p n' h' M rs s k := by
  unfold givenN
  rw [← List.map_take, List.take_range, Nat.min_eq_left h]
end Go.Proofs.YtlhipgejiacklaaDoor
namespace Go.Proofs.YtlhipgejiacklaaDoor
open Go.RowKit

/-- The dice, two plans, the secret and the old shares lie below B; nothing of them is written but the dice. -/
structure PtsR (w0 W : World) (B D : Nat) (R : List Int) (px py : Nat) (p n h n' h' : Nat) (SA LA : Option Addr) (sc lc : Nat) (sec : List Nat) (N : List ShN) : Prop where
  env : Env w0 W D R
  pp : PlanCell W px p n h
  pq : PlanCell W py p n' h'
  sec : IntsP (fun b => b ≠ D ∧ b < B) W SA sc (ofN sec)
  sh : ShP (fun b => b ≠ D ∧ b < B) W LA lc (shL N)
  sz : B ≤ W.heap.size
  lo : D < B ∧ px < B ∧ py < B ∧ px ≠ D ∧ py ≠ D
theorem PtsR.mv {w0 W W' : World} {B D px py p n h n' h' sc lc : Nat} {R R' : List Int} {SA LA : Option Addr} {sec : List Nat} {N : List ShN} (H : PtsR w0 W B D R px py p n h n' h' SA LA sc lc sec N) (hd : DiceAt W' D R') (hg : W.grownBy W' (some D)) : PtsR w0 W' B D R' px py p n h n' h' SA LA sc lc sec N :=
  ⟨H.env.next hd hg, H.pp.mv hg H.lo.2.2.2.1, H.pq.mv hg H.lo.2.2.2.2, H.sec.keep (Kept.mv2 hg), H.sh.keep (Kept.mv2 hg), Nat.le_trans H.sz hg.size, H.lo⟩
theorem PtsR.app {w0 W W' : World} {B D px py p n h n' h' sc lc : Nat} {R : List Int} {SA LA : Option Addr} {sec : List Nat} {N : List ShN} (H : PtsR w0 W B D R px py p n h n' h' SA LA sc lc sec N) (hb : Below B W W') : PtsR w0 W' B D R px py p n h n' h' SA LA sc lc sec N :=
  ⟨H.env.app H.lo.1 hb, H.pp.keep (hb.block px H.lo.2.1), H.pq.keep (hb.block py H.lo.2.2.1), H.sec.keep ⟨hb.size, fun b h1 _ => hb.block b h1.2⟩, H.sh.keep ⟨hb.size, fun b h1 _ => hb.block b h1.2⟩, Nat.le_trans H.sz hb.size, H.lo⟩
theorem PtsR.below {w0 W W' : World} {B D px py p n h n' h' sc lc : Nat} {R : List Int} {SA LA : Option Addr} {sec : List Nat} {N : List ShN} (H : PtsR w0 W B D R px py p n h n' h' SA LA sc lc sec N) (hb : Below W.heap.size W W') : PtsR w0 W' B D R px py p n h n' h' SA LA sc lc sec N := H.app (hb.mono H.sz)

/-- The old holders so far, and the parts for each new one. -/
structure FromR (W : World) (B : Nat) (f : Value) (xs : List Nat) (Vs : List Value) (Ns : List (List ShN)) : Prop where
  own : W.ownsRow B 3 1 f xs.length (valsN xs)
  giv : GivenX W B B (fun b => f.ownBlock ≠ some b) Vs Ns
theorem FromR.mv {W W' : World} {B D : Nat} {f : Value} {xs : List Nat} {Vs : List Value} {Ns : List (List ShN)} (H : FromR W B f xs Vs Ns) (hg : W.grownBy W' (some D)) (hD : D < B) : FromR W' B f xs Vs Ns := by
  refine ⟨?_, H.giv.kept hg (fun b hb _ e => by injection e with e; omega)⟩
  exact World.ownsRow.kept H.own hg (by
    rcases hf : f.ownBlock with _ | b
    · exact .inl rfl
    · exact .inr (fun e => by injection e with e; have := (World.ownsRow.lt H.own b hf).1; omega))
theorem FromR.below {W W' : World} {B : Nat} {f : Value} {xs : List Nat} {Vs : List Value} {Ns : List (List ShN)} (H : FromR W B f xs Vs Ns) (hb : Below W.heap.size W W') : FromR W' B f xs Vs Ns := ⟨own_below H.own hb, H.giv.below hb⟩
theorem FromR.new {W : World} {B h : Nat} (hg : W.heap[B]? = some (.cells (List.replicate h (Value.slice none 0 0)).toArray 31 (0, 0))) : FromR W B (.slice none 0 0) [] (List.replicate h (.slice none 0 0)) (List.replicate h []) :=
  ⟨World.ownsRow_nil _ _ _ _, GivenX.new (by simp [Value.ownBlock]) hg (Nat.le_refl _)⟩
/-- One holder more. -/
theorem FromR.push {W W' : World} {B : Nat} {f f' : Value} {xs ys : List Nat} {Vs : List Value} {Ns : List (List ShN)} (H : FromR W B f xs Vs Ns) (hown : W'.ownsRow B 3 1 f' ys.length (valsN ys)) (hg : W.grownBy W' f.ownBlock) (hv : f'.ownBlock = f.ownBlock ∨ f'.ownBlock = some W.heap.size) : FromR W' B f' ys Vs Ns := by
  refine ⟨hown, ?_⟩
  have h1 : GivenX W B B (fun b => f.ownBlock ≠ some b ∧ f'.ownBlock ≠ some b) Vs Ns := H.giv.mono fun b hlt hb => ⟨hb, fun e => by
    rcases hv with e2 | e2
    · exact hb (e2 ▸ e)
    · rw [e2] at e; injection e with e; omega⟩
  exact (h1.kept hg (fun b _ hb e => hb.1 e)).mono fun b _ hb => hb.2
/-- What the inner loop has of the parts that were just made. -/
theorem FromR.fresh {W W' : World} {B c : Nat} {f f' : Value} {xs : List Nat} {Vs : List Value} {Ns : List (List ShN)} {DA : Option Addr} {S : List Shr} (H : FromR W B f xs Vs Ns) (hg : W.grownBy W' f.ownBlock) (hv : f'.ownBlock = f.ownBlock ∨ f'.ownBlock = some W.heap.size)
    (h : ShP (fun b => (B ≤ b ∧ f.ownBlock ≠ some b) ∧ b ≠ B ∧ ∀ u ∈ Vs, u.ownBlock ≠ some b) W DA c S) : ShP (fun b => (B ≤ b ∧ f'.ownBlock ≠ some b) ∧ b ≠ B ∧ ∀ u ∈ Vs, u.ownBlock ≠ some b) W' DA c S := by
  have h1 : ShP (fun b => ((B ≤ b ∧ f'.ownBlock ≠ some b) ∧ b ≠ B ∧ ∀ u ∈ Vs, u.ownBlock ≠ some b) ∧ f.ownBlock ≠ some b) W DA c S := h.mono fun b hlt hb => ⟨⟨⟨hb.1.1, fun e => by
    rcases hv with e2 | e2
    · exact hb.1.2 (e2 ▸ e)
    · rw [e2] at e; injection e with e; omega⟩, hb.2⟩, hb.1.2⟩
  exact (h1.keep (w' := W') ⟨hg.size, fun b hb hlt => hg.block b hlt (fun e => hb.2 e.symm)⟩).mono fun b _ hb => hb.1
theorem FromR.made {W w8 : World} {B c : Nat} {f : Value} {xs : List Nat} {Vs : List Value} {Ns : List (List ShN)} {DA : Option Addr} {S : List Shr} (H : FromR W B f xs Vs Ns) (h : ShP (fun b => W.heap.size ≤ b) w8 DA c S) :
    ShP (fun b => (B ≤ b ∧ f.ownBlock ≠ some b) ∧ b ≠ B ∧ ∀ u ∈ Vs, u.ownBlock ≠ some b) w8 DA c S := by
  refine h.mono fun b _ hb => ⟨⟨by have := H.giv.lt; omega, fun e => by have := (World.ownsRow.lt H.own b e).2; omega⟩, by have := H.giv.lt; omega, fun u hu e => ?_⟩
  obtain ⟨i, hi, rfl⟩ := List.getElem_of_mem hu
  have := ((H.giv.row i _ _ (List.getElem?_eq_getElem hi) (List.getElem?_eq_getElem (show i < Ns.length by rw [← H.giv.len]; exact hi))).lt b e).2
  omega
theorem ShCell.mv {w w' : World} {g D : Nat} {x : Int} {v : Value} (H : ShCell w g x v) (hg : w.grownBy w' (some D)) (hne : g ≠ D) : ShCell w' g x v := (hg.block g (blk_lt H) (fun e => by injection e with e; exact hne e)).trans H
/-- One part more for holder k. -/
theorem FromR.add {W w' : World} {B k : Nat} {f : Value} {xs : List Nat} {Vs : List Value} {Ns : List (List ShN)} {v v' : Value} {N : List ShN} {H : List HV} {x : Nat} {L : List Nat} {A : Option Addr} {c : Nat} (h : FromR W B f xs Vs Ns) (hk : Vs[k]? = some v)
    (e2 : H.length = (shL N).length) (e3 : ∀ j, j < (shL N).length → (hvAt H j).1 = hS (shL N) j ∧ ∃ A c, (hvAt H j).2 = .slice A (vS (shL N) j).length c ∧ IntsP (fun b => ((B ≤ b ∧ f.ownBlock ≠ some b) ∧ b ≠ B ∧ ∀ u ∈ Vs, u.ownBlock ≠ some b) ∧ v.ownBlock ≠ some b) W A c (vS (shL N) j))
    (hI : IntsP (fun b => (B ≤ b ∧ f.ownBlock ≠ some b) ∧ b ≠ B ∧ ∀ u ∈ Vs, u.ownBlock ≠ some b) W A c (ofN L)) (hown : HvOwn w' B v' (H ++ [((x : Int), .slice A L.length c)])) (hg : W.grownBy w' v.ownBlock) (hv : ∀ b, v'.ownBlock = some b → v.ownBlock = some b ∨ W.heap.size ≤ b) :
    FromR (w'.setCell ⟨B, k, none⟩ v') B f xs (Vs.set k v') (Ns.set k (N ++ [(x, L)])) := by
  have hmem : v ∈ Vs := List.mem_of_getElem? hk
  refine ⟨?_, GivenX.add h.giv hk e2 e3 hI hown hg hv (fun b hb e => by have := (World.ownsRow.lt h.own b e).2; omega)⟩
  have h1 : w'.ownsRow B 3 1 f xs.length (valsN xs) := World.ownsRow.kept h.own hg (by
    rcases hf : f.ownBlock with _ | b
    · exact .inl rfl
    · exact .inr (fun e => h.giv.xo v hmem b e.symm hf))
  exact World.ownsRow.kept h1 (grown_cellSet w' B k v') (by
    rcases hf : f.ownBlock with _ | b
    · exact .inl rfl
    · exact .inr (fun e => h.giv.xg (hf.trans e)))
theorem fresh_add {W w' : World} {B k : Nat} {Y : Nat → Prop} {Vs : List Value} {v v' : Value} {DA : Option Addr} {dc : Nat} {S : List Shr} (h : ShP (fun b => (B ≤ b ∧ Y b) ∧ b ≠ B ∧ ∀ u ∈ Vs, u.ownBlock ≠ some b) W DA dc S) (hk : Vs[k]? = some v) (hg : W.grownBy w' v.ownBlock)
    (hv : ∀ b, v'.ownBlock = some b → v.ownBlock = some b ∨ W.heap.size ≤ b) : ShP (fun b => (B ≤ b ∧ Y b) ∧ b ≠ B ∧ ∀ u ∈ Vs.set k v', u.ownBlock ≠ some b) (w'.setCell ⟨B, k, none⟩ v') DA dc S := by
  have hmem : v ∈ Vs := List.mem_of_getElem? hk
  have h1 : ShP (fun b => ((B ≤ b ∧ Y b) ∧ b ≠ B ∧ ∀ u ∈ Vs.set k v', u.ownBlock ≠ some b) ∧ v.ownBlock ≠ some b) W DA dc S := h.mono fun b hlt hb => ⟨⟨hb.1, hb.2.1, fun u hu => by
    rcases List.mem_or_eq_of_mem_set hu with h1 | h1
    · exact hb.2.2 u h1
    · subst h1
      intro e
      rcases hv b e with e | e
      · exact hb.2.2 v hmem e
      · omega⟩, hb.2.2 v hmem⟩
  have h2 := h1.keep (w' := w') ⟨hg.size, fun b hb hlt => hg.block b hlt (fun e => hb.2 e.symm)⟩
  have h3 := h2.keep (w' := w'.setCell ⟨B, k, none⟩ v') ⟨by simp [World.setCell], fun b hb hlt => Below.heap_setCell w' _ v' b (fun e => hb.1.2.1 e)⟩
  exact h3.mono fun b _ hb => hb.1
end Go.Proofs.YtlhipgejiacklaaDoor
namespace Go.Proofs.YtlhipgejiacklaaDoor
open Go.RowKit

attribute [local go_sem high] sliced_low
set_option maxRecDepth 100000 in
set_option maxHeartbeats 8000000 in
theorem reshareParts_walk (A0 : Option Addr) (L0 : List Int) (c0 : Nat) (which : Int) (w : World) (hB : Bases w) (hl0 : L0.length ≤ maxLen) (hI0 : IntsAt w A0 L0) (_ : ∀ n ∈ L0, -9223372036854775808 ≤ n ∧ n ≤ 9223372036854775807) (_ : -9223372036854775808 ≤ which ∧ which ≤ 9223372036854775807) :
    Calls Tryd.prog 10 #[.slice A0 L0.length c0, .int .i64 which] w (RetB (.bool true) w) := by
  have HB := Lib.hid hB
  clear hB
  by_cases hlight : (L0.length : Int) ≤ 500
  · have hL := light_any A0 L0.length c0 w
    rw [decide_eq_true hlight] at hL
    have HLt := Lib.hid hL
    clear hL hlight
    go_enter Tryd.func10, Tryd.ntmps10
    go_wp2_with fail
    refine ret_pure HLt.out ?_
    clear HLt
    go_wp2_with fail
    refine (roll_any A0 L0 c0 _ hl0 hI0).mono ?_
    rintro e w1 ⟨D, rfl, hDs, hD, hb1⟩
    have hE1 : Env w w1 D L0 := ⟨hD, hDs, hb1⟩
    clear hI0 hD hb1
    go_wp2_with fail
    refine (prime_any D L0 _ hE1.dice).mono ?_
    rintro e w2 ⟨p, rfl, hpp, hp5, -, hD2, hg2⟩
    have hE2 := hE1.next hD2 hg2
    have h2 := hpp.1
    have h1 : 1 ≤ p := by omega
    have hp2 : p ≤ 2147483648 := by omega
    have HPP := Lib.hid hpp
    clear hg2 hD2 hE1 hpp
    go_wp2_with fail
    refine (plan_any D _ p _ hE2.dice h2 hp2).mono ?_
    rintro e w3 ⟨n, h, R3, rfl, ⟨hn1, hnh, hh7, hhp⟩, hD3, hg3⟩
    have hE3 := hE2.next hD3 hg3
    have HPN := Lib.hid (PlanN.mk' HPP.out (by omega) hn1 hnh hh7 hhp)
    clear hD3 hg3 hE2 HPP
    go_wp2_with fail
    refine gen_calls fun w4 hw4 => ?_
    have HP : Hid (PlanCell w4 w3.heap.size p n h) := Lib.hid (by rw [hw4]; exact PlanCell.new _ _ _ rfl)
    have hE : Env w w4 D R3 := hE3.mv (by rw [hw4]; exact below_alloc _ _)
    have hxD : w3.heap.size ≠ D := by have := hE3.lt; omega
    have hlx := HP.out.lt
    have p0 := HP.out.c0
    have p1 := HP.out.c1
    have p2 := HP.out.c2
    generalize w3.heap.size = px at *
    clear hw4 hE3
    refine (plan_any D _ p _ hE.dice h2 hp2).mono ?_
    rintro e wq ⟨n', h', Rq, rfl, ⟨hn1', hnh', hh7', hhp'⟩, hDq, hgq⟩
    replace hE := hE.next hDq hgq; replace HP := Lib.hid (HP.out.mv hgq hxD); replace p0 := HP.out.c0; replace p1 := HP.out.c1; replace p2 := HP.out.c2
    have HPN' := Lib.hid (PlanN.mk' HPN.out.pr HPN.out.p2 hn1' hnh' hh7' hhp')
    clear hDq hgq
    have hlq := HP.out.lt
    have hne1 : px ≠ wq.heap.size := by omega
    go_wp2_with fail
    refine gen_calls fun w6 hw6 => ?_
    have hb6 : Below wq.heap.size wq w6 := by rw [hw6]; exact below_alloc _ _
    have HQ : Hid (PlanCell w6 wq.heap.size p n' h') := Lib.hid (by rw [hw6]; exact PlanCell.new _ _ _ rfl)
    have hyD : wq.heap.size ≠ D := by have := hE.lt; omega
    replace hE := hE.mv hb6; replace HP := Lib.hid (HP.out.below hb6); replace p0 := HP.out.c0; replace p1 := HP.out.c1; replace p2 := HP.out.c2
    have q0 := HQ.out.c0
    have q1 := HQ.out.c1
    have q2 := HQ.out.c2
    generalize wq.heap.size = py at *
    clear hw6 hb6 hlq
    refine (dealt_any D _ p n h 2 _ hE.dice HPN.out (by omega) (by omega)).mono ?_
    rintro e w5 ⟨SA, sc, sec, LA, lc, ran, R5, rfl, hDN, hS, hL, hD5, hg5⟩
    replace HQ := Lib.hid (HQ.out.mv hg5 hyD); replace hE := hE.next hD5 hg5; replace HP := Lib.hid (HP.out.mv hg5 hxD); replace p0 := HP.out.c0; replace p1 := HP.out.c1; replace p2 := HP.out.c2; replace q0 := HQ.out.c0; replace q1 := HQ.out.c1; replace q2 := HQ.out.c2
    have HS := Lib.hid hS
    have HL := Lib.hid hL
    have HDN := Lib.hid hDN
    have hq1 : 1 ≤ sec.length := hDN.lo
    have hq2 : sec.length ≤ 2 := hDN.hi
    have HF := Lib.hid (Full.deal HPN.out hDN.sp hDN.rp)
    obtain ⟨N, hN⟩ : ∃ N, N = dealN p n h sec ran := ⟨_, rfl⟩
    rw [← hN] at HL HF
    clear hDN hS hL hD5 hg5 hN
    obtain ⟨rl, hrl⟩ : ∃ rl, rl = sec.length * (n' - 1) := ⟨_, rfl⟩
    have hrl2 : rl ≤ 1048576 := by rw [hrl]; have := Nat.mul_le_mul hq2 (show n' - 1 ≤ 7 by omega); omega
    have hrI : (sec.length : Int) * ((n' : Int) - 1) = (rl : Int) := by rw [hrl, Int.natCast_mul, show ((n' - 1 : Nat) : Int) = (n' : Int) - 1 from by omega]
    have HRL := Lib.hid hrl
    clear hrl
    have hE5lt := hE.lt
    have hx5 := HP.out.lt
    have hy5 := HQ.out.lt
    have HSI := Lib.hid HS.out.intsP
    have HL5 := Lib.hid (HL.out.mono (Q := fun b => b ≠ D ∧ b < w5.heap.size) (fun b hb hd => ⟨hd, hb⟩))
    go_wp2_with (at_make; refine make_shs rfl _ _ rfl h' rfl rfl rfl (by omega) ?_; intro w7 hg7 hb7)
    have HPT0 : Hid (PtsR w w7 w5.heap.size D R5 px py p n h n' h' SA LA sc lc sec N) := Lib.hid (PtsR.app ⟨hE, HP.out, HQ.out, HSI.out, HL5.out, Nat.le_refl _, hE5lt, hx5, hy5, hxD, hyD⟩ hb7)
    have HFR0 := Lib.hid (FromR.new hg7)
    have HLEN := Lib.hid HF.out.len
    clear hE HP HQ p0 p1 p2 q0 q1 q2 HS HL HL5 HSI hg7 hb7 hE5lt hx5 hy5
    generalize w5.heap.size = B at *
    go_loopw [10, 52] (fun f i wr => ∃ (t : Nat) (Vs : List Value) (rs : List (List Nat)) (R' : List Int), t ≤ h ∧ i = .int .i64 t ∧ rs.length = t ∧ FromR wr B f (hsN (N.take t)) Vs (gvnL p n' h' N rs t) ∧ (∀ r ∈ rs, r.length = sec.length * (n' - 1) ∧ ∀ x ∈ r, x < p) ∧ PtsR w wr B D R' px py p n h n' h' SA LA sc lc sec N) (fun _ i _ => h - (intOf i).toNat)
    case atStart => exact ⟨0, _, [], _, Nat.zero_le _, rfl, rfl, by rw [gvn_zero]; exact HFR0.out, (by simp), HPT0.out⟩
    case round =>
      clear HPT0 HFR0
      obtain ⟨t, Us, rs, R', ht, rfl, hrl0, hFr, hNs, hPt⟩ := hrel
      have HRLN := Lib.hid hrl0
      have HFR := Lib.hid hFr
      have HNS := Lib.hid hNs
      have HPT := Lib.hid hPt
      clear hrl0 hFr hNs hPt
      have p0 := HPT.out.pp.c0; have p1 := HPT.out.pp.c1; have p2 := HPT.out.pp.c2; have q0 := HPT.out.pq.c0; have q1 := HPT.out.pq.c1; have q2 := HPT.out.pq.c2
      by_cases hlt : t < h
      · obtain ⟨b1, o1, B1, c1, rfl, hb1, hq1', x0, x1, hX, hXI⟩ := HPT.out.sh.nat (show t < N.length by rw [HLEN.out]; exact hlt)
        obtain ⟨hx1, hx2, hLp⟩ := (HF.out.made.good HPN.out.p1 (by omega)).rng t (by rw [HLEN.out]; exact hlt)
        have hLl := HF.out.made.vlen (show t < N.length by rw [HLEN.out]; exact hlt)
        have hord := HF.out.ord t (by rw [HLEN.out]; exact hlt)
        have HT := Lib.hid (hsN_take (show t < N.length by rw [HLEN.out]; exact hlt))
        obtain ⟨L, hL⟩ : ∃ L, vN N t = L := ⟨_, rfl⟩
        obtain ⟨x, hx⟩ : ∃ x, hN N t = x := ⟨_, rfl⟩
        rw [hx] at x0 hx1 hx2
        rw [hL] at x1 hXI hLp hLl
        have HLX := Lib.hid (And.intro hL hx)
        have HLL := Lib.hid hLl
        have HXI := Lib.hid hXI
        have hL64 : L.length ≤ 64 := by omega
        clear hX hXI hL hx hLl hord
        have i3 : (0 : Int) ≤ (t : Int) := by omega
        have i4 : (t : Int) < (h : Int) := by omega
        go_wp2_with fail
        refine gen_world fun w8 hw8 => ?_
        have hsc : ShCell w8 wr.heap.size x (.slice B1 L.length c1) := by rw [hw8]; exact ShCell.new _ _ rfl
        have hb8 : Below wr.heap.size wr w8 := by rw [hw8]; exact below_alloc _ _
        have hsD : wr.heap.size ≠ D := by have := HPT.out.sz; have := HPT.out.lo.1; omega
        replace HPT := Lib.hid (HPT.out.below hb8)
        replace p0 := HPT.out.pp.c0; replace p1 := HPT.out.pp.c1; replace p2 := HPT.out.pp.c2; replace q0 := HPT.out.pq.c0; replace q1 := HPT.out.pq.c1; replace q2 := HPT.out.pq.c2
        replace HFR := Lib.hid (HFR.out.below hb8)
        replace HXI := Lib.hid (HXI.out.keep (Kept.below hb8))
        have HSC := Lib.hid hsc
        have v0 := HSC.out.c0
        have v1 := HSC.out.c1
        clear hw8 hsc hb8 x0 x1 hb1 hq1'
        generalize wr.heap.size = sx at *
        have hwn : IntKind.i64.wrap ((n' : Int) - 1) = (n' : Int) - 1 := IntWalk.i64_in _ (by omega)
        have hwr : IntKind.i64.wrap ((sec.length : Int) * IntKind.i64.wrap ((n' : Int) - 1)) = (rl : Int) := by rw [hwn, hrI]; exact IntWalk.i64_in _ (by omega)
        have hw2 : IntKind.i64.wrap (rl : Int) = (rl : Int) := IntWalk.i64_in _ (by omega)
        go_region_held3 (fun w' => w'.cell? ⟨px, 0, none⟩ = some (.int .i64 (p : Int)) ∧ w'.cell? ⟨px, 1, none⟩ = some (.int .i64 (n : Int)) ∧ w'.cell? ⟨px, 2, none⟩ = some (.int .i64 (h : Int)) ∧ w'.cell? ⟨py, 0, none⟩ = some (.int .i64 (p : Int)) ∧ w'.cell? ⟨py, 1, none⟩ = some (.int .i64 (n' : Int)) ∧ w'.cell? ⟨py, 2, none⟩ = some (.int .i64 (h' : Int)) ∧ w'.cell? ⟨sx, 0, none⟩ = some (.int .i64 (x : Int)) ∧ w'.cell? ⟨sx, 1, none⟩ = some (.slice B1 L.length c1)) (first | go_keep)
          (first
            | (go_at_call 21; (try rw [hwr]); (try rw [hw2]); refine (elements_any D _ p rl _ (by exact HPT.out.env.dice) h1 hp2 hrl2).mono ?_; intro e wb he; obtain ⟨RA, rc, ra, RR, rfl, hrn, hrp, hSl, hI, hDb, hgd⟩ := elems_new he; have hgb : w8.grownBy wb (some D) := grown_undrew hgd; replace HPT := Lib.hid (HPT.out.mv hDb hgb); replace p0 := HPT.out.pp.c0; replace p1 := HPT.out.pp.c1; replace p2 := HPT.out.pp.c2; replace q0 := HPT.out.pq.c0; replace q1 := HPT.out.pq.c1; replace q2 := HPT.out.pq.c2; replace HFR := Lib.hid (HFR.out.mv hgb HPT.out.lo.1); replace HSC := Lib.hid (HSC.out.mv hgb hsD); replace v0 := HSC.out.c0; replace v1 := HSC.out.c1; replace HXI := Lib.hid (HXI.out.keep (Kept.mv2 hgb)); have HRA := Lib.hid hI.ints.nats)
            | (go_at_call 42; refine (split_made p n h n' h' x B1 RA L ra c1 rc _ _ HPN.out HPN'.out (HPT.out.env.bases HB.out) (by exact HXI.out.ints.nats) (by exact HRA.out) hSl hx1 hx2 hLp hrp (by omega) (by rw [hrn, HLL.out]; exact HRL.out) (by rw [hrn]; exact hrl2) hrn.symm).mono ?_; rintro e ws ⟨DA, dc, rfl, hDA, hbs⟩; have HDA := Lib.hid (HFR.out.made hDA); replace HPT := Lib.hid (HPT.out.below hbs); replace p0 := HPT.out.pp.c0; replace p1 := HPT.out.pp.c1; replace p2 := HPT.out.pp.c2; replace q0 := HPT.out.pq.c0; replace q1 := HPT.out.pq.c1; replace q2 := HPT.out.pq.c2; replace HFR := Lib.hid (HFR.out.below hbs); replace HSC := Lib.hid (HSC.out.below hbs); replace v0 := HSC.out.c0; replace v1 := HSC.out.c1))
        all_goals
          have hDl : (dealN p n' h' L ra).length = h' := deal_len _ _ _ _ _
          have HNS9 := Lib.hid (show ∀ r ∈ rs ++ [ra], r.length = sec.length * (n' - 1) ∧ ∀ x ∈ r, x < p from fun r hr => by
            rcases List.mem_append.1 hr with h0 | h0
            · exact HNS.out r h0
            · rw [List.mem_singleton.1 h0]; exact ⟨hrn.trans HRL.out, hrp⟩)
          have HDL := Lib.hid hDl
          clear he hrn hrp hSl hI hDb hgd hgb hbs hDA HXI HRA hDl hLp
          obtain ⟨xs, hxs⟩ : ∃ xs, xs = hsN (N.take t) := ⟨_, rfl⟩
          have hxl : xs.length = t := by rw [hxs, hsN_len, List.length_take, HLEN.out]; omega
          rw [← hxs] at HFR HT
          have HXS := Lib.hid hxs
          have HXL := Lib.hid hxl
          obtain ⟨FA, fc, rfl, -⟩ := own_sl HFR.out.own rfl
          rw [HXL.out] at HFR HDA
          have hFow : ws.ownsRow B 3 1 (.slice FA t fc) xs.length (valsN xs) := HFR.out.own
          rw [HLX.out.2] at HT
          have hsz0 : B ≤ ws.heap.size := HPT.out.sz
          clear hxs hxl
          go_wp2_with (at_builtin; refine app_nats_at rfl (.tmp 82) (.tmp 85) rfl (base := B) (S := xs) (T := [x]) (v := .slice FA t fc) (by (try rw [HXL.out]); rfl) (hFow.alloc _) rfl ((lit1_nats ws x).nats.news rfl) (by rw [HXL.out]; simp; omega) (by simp; omega) ?_; intro v9 w9 hown9 hg9 hb9 hv9)
          have HDA9 := Lib.hid (FromR.fresh (HFR.out.below (below_alloc _ _)) hg9 hv9 (HDA.out.below (below_alloc _ _)))
          have HFR9 := Lib.hid (FromR.push (HFR.out.below (below_alloc _ _)) hown9 hg9 hv9)
          have HPT9 := Lib.hid ((HPT.out.below (below_alloc _ _)).app hb9)
          clear hown9 hg9 hb9 hv9 hFow hsz0
          obtain ⟨DD, hDD⟩ : ∃ DD, DD = dealN p n' h' L ra := ⟨_, rfl⟩
          rw [← hDD] at HDA9 HDL
          have HDD := Lib.hid hDD
          obtain ⟨ys, hys⟩ : ∃ ys, ys = xs ++ [x] := ⟨_, rfl⟩
          rw [← hys] at HFR9 HT
          clear hDD hys HSC HFR HDA HPT v0 v1 p0 p1 p2 q0 q1 q2 hsD
          have HRT := Lib.hid (getD_last (x := ra) HRLN.out)
          have HGA : Hid (gvnL p n' h' N (rs ++ [ra]) t = gvnL p n' h' N rs t) := Lib.hid (gvn_app (Nat.le_of_eq HRLN.out.symm))
          have HRL1 : Hid ((rs ++ [ra]).length = t + 1) := Lib.hid (by rw [List.length_append, HRLN.out]; rfl)
          generalize rs ++ [ra] = rs1 at *
          go_loopw [89] (fun i wq => ∃ (j : Nat) (Vs : List Value), j ≤ h' ∧ i = .int .i64 j ∧ FromR wq B v9 ys Vs (midN p n' h' N rs1 t j) ∧ ShP (fun b => (B ≤ b ∧ v9.ownBlock ≠ some b) ∧ b ≠ B ∧ ∀ u ∈ Vs, u.ownBlock ≠ some b) wq DA dc (shL DD) ∧ PtsR w wq B D RR px py p n h n' h' SA (some ⟨b1, o1, none⟩) sc lc sec N) (fun i _ => h' - (intOf i).toNat)
          case atStart => exact ⟨0, Us, Nat.zero_le _, rfl, by rw [mid_zero, HGA.out]; exact HFR9.out, HDA9.out, HPT9.out⟩
          case round =>
            clear HFR9 HDA9 HPT9
            obtain ⟨j, Vs, hj, rfl, hF, hQ, hP⟩ := hrel
            by_cases hjl : j < h'
            · obtain ⟨b3, o3, B3, c3, rfl, hb3, -, z0', z1, -, hI3⟩ := hQ.nat (show j < DD.length by rw [HDL.out]; exact hjl)
              obtain ⟨hdx, hdl, hdp⟩ := deal_row (p := p) (n := n') (h := h') (sec := L) (ran := ra) HPN.out.p1 hjl
              rw [← HDD.out] at hdx hdl hdp
              have hN := midN_at (p := p) (n' := n') (h' := h') (M := N) (rs := rs1) (k := t) (j := j) hjl
              rw [if_neg (Nat.lt_irrefl _)] at hN
              obtain ⟨v, hv⟩ : ∃ v, Vs[j]? = some v := ⟨_, List.getElem?_eq_getElem (show j < Vs.length by rw [hF.giv.len, midN_len]; exact hjl)⟩
              obtain ⟨VA, vc, rfl, -⟩ := (hF.giv.row j v _ hv hN).read
              obtain ⟨g0, gf⟩ := hF.giv.cell hv
              rw [shL_len, givenN_len] at g0 hv
              have z0 : wr.cell? ⟨b3, o3 + j * 2, none⟩ = some (.int .i64 ((j : Int) + 1)) := by rw [z0', hdx]; rfl
              have HMS := Lib.hid (midN_succ (p := p) (n' := n') (h' := h') (M := N) (rs := rs1) (k := t) hjl)
              rw [HRT.out, HLX.out.1, ← HDD.out] at HMS
              obtain ⟨K, hK⟩ : ∃ K, vN DD j = K := ⟨_, rfl⟩
              rw [hK] at z1 hI3 HMS
              obtain ⟨H, e1, e2, e3⟩ := (hF.giv.row j _ _ hv hN).ex
              have hHl : H.length ≤ 1000 := by rw [e2, shL_len, givenN_len]; omega
              have HE := Lib.hid (And.intro e2 e3)
              have HVN := Lib.hid (And.intro hv hN)
              have HI3 := Lib.hid hI3
              have HNO := Lib.hid (hF.giv.no _ (List.mem_of_getElem? hv))
              have l9 : B < wr.heap.size := hF.giv.lt
              have HF9 := Lib.hid hF
              have HQ9 := Lib.hid hQ
              have HP9 := Lib.hid hP
              have i3 : (0 : Int) ≤ (j : Int) := by omega
              have i4 : (j : Int) < (h' : Int) := by omega
              obtain ⟨w9, hw9⟩ : ∃ w9, w9 = wr := ⟨_, rfl⟩
              subst hw9
              clear hF hQ hP hN hv hI3 hdx hdl hdp hK e2 e3 z0'
              go_wp2_with fail
              go_region_law (refine step_app_hv _ rfl (.tmp 97) (.tmp 102) rfl w9 B (.slice VA t vc) H ((j : Int) + 1) (.slice B3 K.length c3) rfl rfl ⟨rfl, rfl, rfl, rfl⟩ rfl e1 (by omega) (by omega) ?_; intro g6 c6 w6 hown6 hg6 hat6 hb6; have n1 := (World.cell?_of_block (a := ⟨B, j, none⟩) (hg6.block B l9 (fun e => HNO.out e.symm))).trans g0; have n2 := (World.frozen?_of_block (a := ⟨B, j, none⟩) (hg6.block B l9 (fun e => HNO.out e.symm))).trans gf)
              all_goals
                have hvb : ∀ b, (Value.slice (some ⟨g6, 0, none⟩) (H.length + 1) c6).ownBlock = some b → (Value.slice VA t vc).ownBlock = some b ∨ w9.heap.size ≤ b := fun b e2 => by
                  have : g6 = b := Option.some.inj (show some g6 = some b from e2)
                  subst this
                  exact hat6
                have hA := FromR.add (x := j + 1) (L := K) HF9.out HVN.out.1 HE.out.1 HE.out.2 HI3.out hown6 hg6 hvb
                rw [HMS.out] at hA
                have HAA := Lib.hid (And.intro hA (And.intro (fresh_add HQ9.out HVN.out.1 hg6 hvb) (HP9.out.app (hb6.setCell (p := ⟨B, j, none⟩) (Nat.le_refl _) (.slice (some ⟨g6, 0, none⟩) (H.length + 1) c6)))))
                clear hA hvb hown6 hg6 hat6 n1 n2 e1
                go_wp2_with fail
                go_roundw
                case rel => exact ⟨j + 1, _, by omega, by go_num, HAA.out.1, HAA.out.2.1, HAA.out.2.2⟩
                case measure => simp [intOf]; omega
            · obtain rfl : h' = j := by omega
              rw [mid_all] at hF
              have HAA := Lib.hid (And.intro hF hP)
              clear hF hQ hP
              go_wp2_with fail
              go_roundw
              case rel => exact ⟨t + 1, _, rs1, _, by omega, by go_num, HRL1.out, by rw [HT.out]; exact HAA.out.1, HNS9.out, HAA.out.2⟩
              case measure => simp [intOf]; omega
      · obtain rfl : h = t := by omega
        obtain ⟨w6, hw6⟩ : ∃ w6, w6 = wr := ⟨_, rfl⟩
        subst hw6
        have hTK : N.take h = N := List.take_of_length_le (by rw [HLEN.out]; exact Nat.le_refl _)
        have HTKN := Lib.hid hTK
        rw [hTK] at HFR
        have hsl : (hsN N).length = h := by rw [hsN_len, HLEN.out]
        obtain ⟨FA, fc, hf, hFN, hFok, -⟩ := own_sl HFR.out.own rfl
        have hfc : h ≤ fc := by have := hFok.len; omega
        rw [hsl] at hf
        subst hf
        have HFN := Lib.hid hFN
        have HG6 := Lib.hid HFR.out.giv
        obtain ⟨F, HFo, -, -⟩ := HF.out.made.ex
        have hnd := HFo.nd
        have hrg : ∀ x ∈ hsN N, 1 ≤ x ∧ x ≤ h := fun x hx => by
          obtain ⟨s, hs, rfl⟩ := List.mem_map.1 hx
          exact ⟨(HFo.on s hs).1, (HFo.on s hs).2.1⟩
        have HSS := Lib.hid (And.intro hsl (And.intro hnd hrg))
        have HRS := Lib.hid (rands_of (n' := n') (m := sec.length) (Nat.le_of_eq HRLN.out.symm) HNS.out)
        have hl6 : B < w6.heap.size := HG6.out.lt
        have hn7 : n ≤ h := hnh
        clear hTK hsl hFN hFok HFo hnd hrg HFR HNS HRLN
        go_wp2_with fail
        go_loopw [17, 109] (fun o i wr => ∃ j : Nat, j ≤ h' ∧ i = .int .i64 j ∧ RowsV (fun b => w6.heap.size ≤ b) wr w6.heap.size o (shL ((movedN p n' h' N rs h).take j)) ∧ Below w6.heap.size w6 wr) (fun _ i _ => h' - (intOf i).toNat)
        case atStart => exact ⟨0, Nat.zero_le _, rfl, RowsV.nil _ _ _, Below.refl _ _⟩
        case round =>
          obtain ⟨j, hj, rfl, hR, hbr⟩ := hrel
          obtain ⟨OA, oc, hv, hRd⟩ := hR.read
          have hlk : (shL ((movedN p n' h' N rs h).take j)).length = j := by rw [shL_len, List.length_take, movedN_len]; omega
          rw [hlk] at hv
          subst hv
          have hsz := hbr.size
          have HRr := Lib.hid hR
          have HLK := Lib.hid hlk
          have HRd := Lib.hid hRd
          have HPTr := Lib.hid (HPT.out.below hbr)
          have HGr := Lib.hid (HG6.out.below hbr)
          have HFr := Lib.hid (HFN.out.below hbr)
          clear hR hlk hRd p0 p1 p2 q0 q1 q2
          have p0 := HPTr.out.pp.c0
          have p1 := HPTr.out.pp.c1
          have p2 := HPTr.out.pp.c2
          have q0 := HPTr.out.pq.c0
          have q1 := HPTr.out.pq.c1
          have q2 := HPTr.out.pq.c2
          by_cases hjl : j < h'
          · have hgn : (gvnL p n' h' N rs h).length = h' := by simp [gvnL]
            have hgj : (gvnL p n' h' N rs h)[j]'(by rw [hgn]; exact hjl) = givenN p n' h' N rs h j := by simp [gvnL]
            obtain ⟨B1, c1, hv, hX⟩ := HGr.out.at_ (k := j) (by rw [hgn]; exact hjl)
            rw [hgj] at hv hX
            rw [givenN_len] at hv
            obtain ⟨gx, -⟩ := HGr.out.cell hv
            have hPT := given_parts (k := j) (rs := rs) (t := h) (n' := n') (h' := h') HPN.out HF.out.made (by rw [HLEN.out]; exact Nat.le_refl _) hjl
            have HJN := Lib.hid (show Calls Tryd.prog 44 #[planV p n h, planV p n' h', .slice FA h fc, .slice B1 h c1] wr (NewShrE ((j + 1 : Nat) : Int) (joinV p (wsN p (hsN N) 0) (fun i => vN (givenN p n' h' N rs h j) i) h) 0 wr) from
              join_made p n h n' h' (j + 1) sec.length h FA B1 fc c1 (hsN N) (givenN p n' h' N rs h j) wr HPN.out HPN'.out (HPTr.out.env.bases HB.out) HFr.out hX HSS.out.2.1 HSS.out.2.2 hPT (by omega) HSS.out.1 (by rw [givenN_len]) hn7 (by omega))
            have HTK : Hid ((movedN p n' h' N rs h).take (j + 1) = (movedN p n' h' N rs h).take j ++ [(j + 1, joinV p (wsN p (hsN N) 0) (fun i => vN (givenN p n' h' N rs h j) i) h)]) := Lib.hid (by have := movedN_take (p := p) (n' := n') (h' := h') (M := N) (rs := rs) (t := h) hjl; rw [HTKN.out] at this; exact this)
            generalize joinV p (wsN p (hsN N) 0) (fun i => vN (givenN p n' h' N rs h j) i) h = V at *
            have i3 : (0 : Int) ≤ (j : Int) := by omega
            have i4 : (j : Int) < (h' : Int) := by omega
            clear hgj hgn hv hX hPT
            go_wp2_with fail
            refine (HJN.out).mono ?_
            rintro e w9 ⟨SAe, sce, rfl, hSe, hOKe, hOffe, hbe⟩
            have hX1 : (((j + 1 : Nat)) : Int) = (j : Int) + 1 := by omega
            (try rw [hX1])
            have hN9 : ShNew wr (w9.alloc (.cells #[.int .i64 ((j : Int) + 1), .slice SAe V.length sce] 53)) w9.heap.size ((j : Int) + 1) SAe sce V := ShNew.late hbe hSe hOKe hOffe
            have HN9 := Lib.hid hN9
            obtain ⟨W, hW⟩ : ∃ W, W = (w9.alloc (.cells #[.int .i64 ((j : Int) + 1), .slice SAe V.length sce] 53)).alloc (.cells #[.int .i64 ((j : Int) + 1), .slice SAe V.length sce] 53) := ⟨_, rfl⟩
            have hbW : Below wr.heap.size wr W := by rw [hW]; exact bl_alloc _ hN9.below
            have hWz : wr.heap.size ≤ W.heap.size := hbW.size
            obtain ⟨H, e1, e2, e3⟩ := (HRr.out.below hbW).ex
            have HE3 := Lib.hid (And.intro e1 (And.intro e2 e3))
            have hHl : H.length ≤ 100000 := by rw [e2, HLK.out]; omega
            have hz9 := hbe.size
            clear e2 e3 hN9 hOffe hSe hOKe
            subst hW
            have hbz : w6.heap.size ≤ (w9.alloc (.cells #[.int .i64 ((j : Int) + 1), .slice SAe V.length sce] 53)).heap.size := by rw [size_alloc]; omega
            have hbz2 : w6.heap.size ≤ ((w9.alloc (.cells #[.int .i64 ((j : Int) + 1), .slice SAe V.length sce] 53)).alloc (.cells #[.int .i64 ((j : Int) + 1), .slice SAe V.length sce] 53)).heap.size := by rw [size_alloc, size_alloc]; omega
            clear p0 p1 p2 q0 q1 q2 gx
            go_wp2_with (at_builtin; refine app_hv rfl (.tmp 123) (.tmp 125) rfl (base := w6.heap.size) (H := H) (v := .slice OA j oc) (((j : Int) + 1), .slice SAe V.length sce) rfl e1 rfl (by first | exact heap_alloc_new _ _ | (have := heap_alloc_new (w9.alloc (.cells #[.int .i64 ((j : Int) + 1), .slice SAe V.length sce] 53)) (.cells #[.int .i64 ((j : Int) + 1), .slice SAe V.length sce] 53); rw [size_alloc] at this; exact this)) rfl (by omega) (by exact hbz2) ?_; intro v4 wg hown4 hg4 hb4 hv4)
            have HB4 := Lib.hid (hbr.trans ((hbW.mono hsz).trans hb4))
            have HR4 := Lib.hid (RowsV.put (x := j + 1) HRr.out HN9.out hsz rfl HE3.out hown4 hg4 hv4 HTK.out)
            clear hown4 hg4 hv4 e1
            go_roundw
            case rel => exact ⟨j + 1, by omega, by go_num, HR4.out, HB4.out⟩
            case measure => simp [intOf]; omega
          · obtain rfl : h' = j := by omega
            have HFM := Lib.hid (moved_full HPN.out HPN'.out HF.out.made (by omega) hn7 (by rw [HLEN.out]; exact Nat.le_refl _) HRS.out)
            have hX := HRd.out
            rw [List.take_of_length_le (by rw [movedN_len]; exact Nat.le_refl _)] at hX
            have HX := Lib.hid hX
            obtain ⟨MV, hMV⟩ : ∃ MV, MV = movedN p n' h' N rs h := ⟨_, rfl⟩
            rw [← hMV] at HX HFM
            clear hX hMV HRr HLK HRd
            have HMLN := Lib.hid HFM.out.len
            go_wp2_with fail
            refine (refCombine_made HFM.out.made HPN'.out OA oc h' _ HX.out (by omega) (by rw [HMLN.out]; omega) HMLN.out.symm (by rw [HMLN.out]; exact HPN'.out.nh)).mono ?_
            intro e wu he
            obtain ⟨XA, xc, rfl, hXX, hbu⟩ := he.held HPTr.out.env.lt
            have HXX := Lib.hid hXX
            clear he hXX
            replace HPTr := Lib.hid (HPTr.out.below hbu)
            replace HGr := Lib.hid (HGr.out.below hbu)
            replace HFr := Lib.hid (HFr.out.below hbu)
            replace HX := Lib.hid (HX.out.below hbu)
            replace p0 := HPTr.out.pp.c0
            replace p1 := HPTr.out.pp.c1
            replace p2 := HPTr.out.pp.c2
            replace q0 := HPTr.out.pq.c0
            replace q1 := HPTr.out.pq.c1
            replace q2 := HPTr.out.pq.c2
            go_wp2_with fail
            refine (mod_any which h' _ (by omega)).mono ?_
            rintro e wm ⟨rfl, rfl⟩
            obtain ⟨kk, hkk, hkl⟩ : ∃ kk : Nat, modI which (h' : Int) = (kk : Int) ∧ kk < h' := by have := modI_range which h' (by omega); exact ⟨(modI which h').toNat, by omega, by omega⟩
            rw [hkk]
            have hgn : (gvnL p n' h' N rs h).length = h' := by simp [gvnL]
            have hgj : (gvnL p n' h' N rs h)[kk]'(by rw [hgn]; exact hkl) = givenN p n' h' N rs h kk := by simp [gvnL]
            obtain ⟨B1, c1, hv, hXk⟩ := HGr.out.at_ (k := kk) (by rw [hgn]; exact hkl)
            rw [hgj] at hv hXk
            rw [givenN_len] at hv
            obtain ⟨g0, -⟩ := HGr.out.cell hv
            have hcap := hXk.cap
            rw [givenN_len] at hcap
            have hlB : B < wm.heap.size := HGr.out.lt
            have lpx : px < wm.heap.size := HPTr.out.pp.lt
            have lpy : py < wm.heap.size := HPTr.out.pq.lt
            have hn1n : ((n - 1 : Nat) : Int) = (n : Int) - 1 := by omega
            have HJF := Lib.hid (fun (W : World) (hb : Below wm.heap.size wm W) => show Calls Tryd.prog 44 #[planV p n h, planV p n' h', .slice FA (n - 1) fc, .slice B1 (n - 1) c1] W (NewShrE 0 [] 5 W) from by
              have hpt := given_parts (k := kk) (rs := rs) (t := n - 1) (n' := n') (h' := h') HPN.out HF.out.made (by rw [HLEN.out]; omega) hkl
              have hq : ShP (fun b => B ≤ b) W B1 c1 (shL (givenN p n' h' N rs (n - 1) kk)) := by
                have := (hXk.below hb).take (n - 1)
                rw [shL_take, given_take (by omega)] at this; exact this
              have hh : NatsAt W FA ((hsN N).take (n - 1)) := (HFr.out.below hb).take _
              have hl1 : ((hsN N).take (n - 1)).length = n - 1 := by rw [List.length_take, HSS.out.1]; omega
              exact join_few p n h n' h' (kk + 1) sec.length (n - 1) FA B1 fc c1 ((hsN N).take (n - 1)) (givenN p n' h' N rs (n - 1) kk) W HPN.out HPN'.out ((HPTr.out.env.bases HB.out).below hb (HPTr.out.env.bases HB.out).1) hh hq (HSS.out.2.1.sublist (List.take_sublist _ _)) (fun x hx => HSS.out.2.2 x (List.mem_of_mem_take hx)) hpt (by omega) hl1 (by rw [givenN_len]) (by omega) (by omega))
            have j1 : (0 : Int) ≤ (kk : Int) := by omega
            have j2 : (kk : Int) < (h' : Int) := by omega
            obtain ⟨k1, hk1⟩ : ∃ k1, k1 = n - 1 := ⟨_, rfl⟩
            rw [← hk1] at HJF
            have j3 : (0 : Int) ≤ (k1 : Int) := by omega
            have j4 : (k1 : Int) ≤ (fc : Int) := by omega
            have j5 : (k1 : Int) ≤ (c1 : Int) := by omega
            have hwn : IntKind.i64.wrap ((n : Int) - 1) = (k1 : Int) := by rw [IntWalk.i64_in _ (by omega)]; omega
            clear hk1 hn1n
            clear hgj hgn hv hXk HGr hcap hl6
            go_wp2_with fail
            go_region_held3 (fun w' => w'.cell? ⟨px, 0, none⟩ = some (.int .i64 (p : Int)) ∧ w'.cell? ⟨px, 1, none⟩ = some (.int .i64 (n : Int)) ∧ w'.cell? ⟨px, 2, none⟩ = some (.int .i64 (h : Int)) ∧ w'.cell? ⟨py, 0, none⟩ = some (.int .i64 (p : Int)) ∧ w'.cell? ⟨py, 1, none⟩ = some (.int .i64 (n' : Int)) ∧ w'.cell? ⟨py, 2, none⟩ = some (.int .i64 (h' : Int)) ∧ w'.cell? ⟨B, kk, none⟩ = some (.slice B1 h c1)) (first | (go_keep; done) | (exact ⟨keep_set2 (by dsimp only; omega) t0, keep_set2 (by dsimp only; omega) t1, keep_set2 (by dsimp only; omega) t2, keep_set2 (by dsimp only; omega) t3, keep_set2 (by dsimp only; omega) t4, keep_set2 (by dsimp only; omega) t5, keep_set2 (by dsimp only; omega) t6⟩))
              (first
                | (go_at_call 44; refine (HJF.out _ (by (repeat (first | exact bl_refl _ | apply bl_drew | apply bl_alloc)))).mono ?_; rintro e w9 ⟨SAe, sce, rfl, hSe, hOKe, hOffe, hbe⟩; (first | (have hbe' : Below wm.heap.size wm w9 := below_undrew1 hbe) | (have hbeA : Below (wm.alloc shO).heap.size (wm.alloc shO) w9 := below_undrew1 hbe; have hbe' : Below wm.heap.size wm w9 := below_trans (below_alloc _ _) hbeA; have HRy := Lib.hid ((ShCell.new (w := wm) 0 (.slice none 0 0) rfl).below hbeA); have fy0 := HRy.out.frozen 0; have fy1 := HRy.out.frozen 1; have ry0 := HRy.out.c0; have ry1 := HRy.out.c1)); have t0 := (hbe'.cell (p := ⟨px, 0, none⟩) lpx).trans p0; have t1 := (hbe'.cell (p := ⟨px, 1, none⟩) lpx).trans p1; have t2 := (hbe'.cell (p := ⟨px, 2, none⟩) lpx).trans p2; have t3 := (hbe'.cell (p := ⟨py, 0, none⟩) lpy).trans q0; have t4 := (hbe'.cell (p := ⟨py, 1, none⟩) lpy).trans q1; have t5 := (hbe'.cell (p := ⟨py, 2, none⟩) lpy).trans q2; have t6 := (hbe'.cell (p := ⟨B, kk, none⟩) hlB).trans g0))
            all_goals
              refine gen_last fun wf hwf => ?_
              have hbf : Below wm.heap.size wm wf := by first | exact hwf ▸ bl_alloc _ hbe' | exact hwf ▸ below_set2 hbe' (Nat.le_refl _) _ _
              replace HPTr := Lib.hid (HPTr.out.below hbf)
              replace HX := Lib.hid (HX.out.below hbf)
              replace HXX := Lib.hid (HXX.out.below hbf)
              clear hwf hbf hSe hOKe hOffe hbe hbe' p0 p1 p2 q0 q1 q2 g0
              have q0 := HPTr.out.pq.c0
              have q1 := HPTr.out.pq.c1
              have q2 := HPTr.out.pq.c2
              go_wp2_with fail
              refine (same_at XA SA sec _ _ xc sc _ HXX.out.nats HPTr.out.sec.ints.nats (by omega) rfl rfl).mono ?_
              rintro e wx2 ⟨rfl, rfl⟩
              go_wp2_with fail
              refine ret_below (refFits_made HFM.out.made HPN'.out OA oc h' _ HX.out (by omega) (by rw [HMLN.out]; omega) HMLN.out.symm) ?_
              intro wf2 hbf2
              replace HPTr := Lib.hid (HPTr.out.below hbf2)
              clear q0 q1 q2
              go_wp2_with fail
              refine ret_below (awake9 _ (HPTr.out.env.bases HB.out)) ?_
              intro wz2 hbz2
              go_wp2_with fail
              go_ret
              exact RetB.bool rfl (HPTr.out.env.mv hbz2).below
  · have hL := light_any A0 L0.length c0 w
    rw [decide_eq_false hlight] at hL
    have HLt := Lib.hid hL
    clear hL
    go_enter Tryd.func10, Tryd.ntmps10
    go_wp2_with fail
    refine ret_pure HLt.out ?_
    go_wp2_with fail
    refine ret_below (awake9 _ HB.out) ?_
    intro w1 hb1
    go_wp2_with fail
    go_ret
    exact RetB.bool rfl hb1
end Go.Proofs.YtlhipgejiacklaaDoor
namespace Go.Proofs.YtlhipgejiacklaaDoor
open Go.RowKit

theorem cell_block_lt {w : World} {a : Addr} {v : Value} (h : w.cell? a = some v) : a.block < w.heap.size := by
  rcases Nat.lt_or_ge a.block w.heap.size with hlt | hge
  · exact hlt
  · unfold World.cell? at h; simp [Array.getElem?_eq_none hge] at h
theorem open_row {W : World} {x : Addr} {len cap : Nat} {zs : List Int} (hl : len ≤ cap) (hm : cap ≤ maxLen) (hz : zs.length = cap) (hcell : ∀ i, i < zs.length → W.cell? (x.add i) = some (.int .i64 (zs.getD i 0)))
    (hb : ∀ n ∈ zs, -9223372036854775808 ≤ n ∧ n ≤ 9223372036854775807) :
    ∃ ys : List Int, ys.length = len ∧ ys.length ≤ maxLen ∧ IntsAt W (some x) ys ∧ ∀ n ∈ ys, -9223372036854775808 ≤ n ∧ n ≤ 9223372036854775807 := by
  refine ⟨zs.take len, by simp; omega, by simp; omega, fun k hk => ?_, fun n hn => hb n (List.mem_of_mem_take hn)⟩
  have hk' : k < len := by simpa using Nat.lt_of_lt_of_le hk (List.length_take_le _ _)
  have h0 := hcell 0 (by omega)
  have hk0 := hcell k (by omega)
  obtain ⟨b, off, spot⟩ := x
  have hs : spot = none := by simpa [Addr.add] using World.cell?_spot h0
  subst hs
  have hlt := cell_block_lt hk0
  refine ⟨b, off, rfl, ?_, ?_⟩
  · unfold Addr.add at hlt; split at hlt <;> exact hlt
  · have e : (⟨b, off, none⟩ : Addr).add k = ⟨b, off + k, none⟩ := by
      unfold Addr.add; split
      · rename_i h; subst h; rfl
      · rfl
    rw [← e, hk0, nth_eq hk]
    simp [List.getD_eq_getElem?_getD, show k < zs.length by omega]
end Go.Proofs.YtlhipgejiacklaaDoor
