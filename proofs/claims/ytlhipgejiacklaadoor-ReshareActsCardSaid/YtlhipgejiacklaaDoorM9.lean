/-
  Reshare: Move.
  Reshare: Move of any good list.
  Reshare: the sanity check; random numbers for each old holder.
  Reshare: a plan's variable is written.
  Reshare: lists of shares, one for each new holder, in blocks that X allows (the list of the old holders lies in none of them).
  Reshare: Join of too few parts.
  Shares: the document's Deal of any plan and numbers.
  What passes the program's test: Fermat's law for the four bases; a quick test for the kernel.
  Conditions: those that each theorem names.
-/
import Derived.Test.YtlhipgejiacklaaDoorM8
set_option linter.unusedVariables false
set_option linter.unusedSimpArgs false
namespace Go.Proofs.YtlhipgejiacklaaDoor
open Go.RowKit
attribute [local go_sem high] sliced_low

def midN (p n' h' : Nat) (M : List ShN) (rs : List (List Nat)) (k j : Nat) : List (List ShN) := (List.range h').map fun q => if q < j then givenN p n' h' M rs (k + 1) q else givenN p n' h' M rs k q
theorem midN_len (p n' h' : Nat) (M : List ShN) (rs : List (List Nat)) (k j : Nat) : (midN p n' h' M rs k j).length = h' := by simp [midN]
theorem midN_at {p n' h' : Nat} {M : List ShN} {rs : List (List Nat)} {k j q : Nat} (hq : q < h') : (midN p n' h' M rs k j)[q]? = some (if q < j then givenN p n' h' M rs (k + 1) q else givenN p n' h' M rs k q) := by simp [midN, hq]
theorem midN_succ {p n' h' : Nat} {M : List ShN} {rs : List (List Nat)} {k j : Nat} (hj : j < h') : (midN p n' h' M rs k j).set j (givenN p n' h' M rs k j ++ [(j + 1, vN (dealN p n' h' (vN M k) (rs.getD k [])) j)]) = midN p n' h' M rs k (j + 1) := by
  refine List.ext_getElem? fun q => ?_
  rcases Nat.lt_or_ge q h' with hq | hq
  · by_cases e : j = q
    · subst e
      rw [List.getElem?_set_self (by rw [midN_len]; exact hq), midN_at hq, if_pos (by omega), givenN_succ]
    · rw [List.getElem?_set_ne e, midN_at hq, midN_at hq]
      by_cases h1 : q < j
      · rw [if_pos h1, if_pos (by omega)]
      · rw [if_neg h1, if_neg (by omega)]
  · rw [List.getElem?_eq_none (by rw [List.length_set, midN_len]; exact hq), List.getElem?_eq_none (by rw [midN_len]; exact hq)]
def gvnL (p n' h' : Nat) (M : List ShN) (rs : List (List Nat)) (k : Nat) : List (List ShN) := (List.range h').map fun q => givenN p n' h' M rs k q
theorem mid_zero (p n' h' : Nat) (M : List ShN) (rs : List (List Nat)) (k : Nat) : midN p n' h' M rs k 0 = gvnL p n' h' M rs k := by simp [midN, gvnL]
theorem mid_all (p n' h' : Nat) (M : List ShN) (rs : List (List Nat)) (k : Nat) : midN p n' h' M rs k h' = gvnL p n' h' M rs (k + 1) := by
  unfold midN gvnL
  refine List.map_congr_left fun q hq => ?_
  rw [if_pos (List.mem_range.1 hq)]
theorem gvn_zero (p n' h' : Nat) (M : List ShN) (rs : List (List Nat)) : gvnL p n' h' M rs 0 = List.replicate h' [] := by simp [gvnL, givenN, List.map_const']

theorem DealR.weak {N : List ShN} {h : Nat} {w W w' : World} {e : Ending} (H : DealR N h W e w') (hb : Below w.heap.size w W) : DealR N h w e w' := by
  obtain ⟨A, c, he, hS, hb2⟩ := H
  exact ⟨A, c, he, hS.mono (fun b _ hq => Nat.le_trans hb.size hq), below_trans hb hb2⟩

theorem GivenR.own_lt {w : World} {base g : Nat} {Vs : List Value} {Ns : List (List ShN)} (h : GivenR w base g Vs Ns) : ∀ u ∈ Vs, ∀ b, u.ownBlock = some b → b < w.heap.size := fun u hu b hb => by
  obtain ⟨i, hi, rfl⟩ := List.getElem_of_mem hu
  exact ((h.row i _ _ (List.getElem?_eq_getElem hi) (List.getElem?_eq_getElem (show i < Ns.length by rw [← h.len]; exact hi))).lt b hb).2
theorem parts_add {W w' : World} {base g k : Nat} {Vs : List Value} {v v' : Value} {DA : Option Addr} {dc : Nat} {S : List Shr} (h : ShP (fun b => base ≤ b ∧ b ≠ g ∧ ∀ u ∈ Vs, u.ownBlock ≠ some b) W DA dc S) (hk : Vs[k]? = some v) (hg : W.grownBy w' v.ownBlock)
    (hv : ∀ b, v'.ownBlock = some b → v.ownBlock = some b ∨ W.heap.size ≤ b) : ShP (fun b => base ≤ b ∧ b ≠ g ∧ ∀ u ∈ Vs.set k v', u.ownBlock ≠ some b) (w'.setCell ⟨g, k, none⟩ v') DA dc S := by
  have hmem : v ∈ Vs := List.mem_of_getElem? hk
  have h1 : ShP (fun b => (base ≤ b ∧ b ≠ g ∧ ∀ u ∈ Vs.set k v', u.ownBlock ≠ some b) ∧ v.ownBlock ≠ some b) W DA dc S := h.mono fun b hlt hb => ⟨⟨hb.1, hb.2.1, fun u hu => by
    rcases List.mem_or_eq_of_mem_set hu with h1 | h1
    · exact hb.2.2 u h1
    · subst h1
      intro e
      rcases hv b e with e | e
      · exact hb.2.2 v hmem e
      · omega⟩, hb.2.2 v hmem⟩
  have h2 := h1.keep (w' := w') ⟨hg.size, fun b hb hlt => hg.block b hlt (fun e => hb.2 e.symm)⟩
  have h3 := h2.keep (w' := w'.setCell ⟨g, k, none⟩ v') ⟨by simp [World.setCell], fun b hb hlt => Below.heap_setCell w' _ v' b (fun e => hb.1.2.1 e)⟩
  exact h3.mono fun b _ hb => hb.1

set_option maxRecDepth 100000 in
set_option maxHeartbeats 8000000 in
theorem move_made {P P' : Nat → Prop} (p n h n' h' : Nat) (A RA : Option Addr) (c rc kM kr : Nat) (a : List Nat) (M : List ShN) (rs : List (List Nat)) (w : World) (PN : PlanN p n h) (PN' : PlanN p n' h') (hB : Bases w) (H : Made p n h a M) (hm : a.length ≤ 64) (hA : ShP P w A c (shL M)) (hR : LstP P' w RA rc rs)
    (hn : n ≤ M.length) (hl : M.length ≤ 16) (hkM : kM = M.length) (hkr : kr = rs.length) (hr : n ≤ rs.length) (hr2 : rs.length ≤ 1000) (hrs : Rands p n' a.length n rs) :
    Calls Tryd.prog 46 #[planV p n h, planV p n' h', .slice A kM c, .slice RA kr rc] w (DealR (movedN p n' h' M rs n) h' w) := by
  subst hkM hkr
  have hn1 := PN.n1
  have hp1 := PN.p1
  have hcap := hA.cap
  have hh'7 := PN'.h7
  have HCK := Lib.hid (fun (W : World) (hb : Below w.heap.size w W) => check_made (k := M.length) H PN A c W (hB.below hb hB.1) (hA.below hb) (by omega) (by omega) rfl hn)
  have HPL := Lib.hid (fun (W : World) (hb : Below w.heap.size w W) => plans_made p n h n' h' W PN PN' (hB.below hb hB.1))
  have HBS := Lib.hid hB
  have HA := Lib.hid hA
  have HR := Lib.hid hR
  have HM := Lib.hid H
  have HPN := Lib.hid PN
  have HPN' := Lib.hid PN'
  have HRS := Lib.hid hrs
  clear hB hA hR H PN PN' hrs
  go_enter Tryd.func46, Tryd.ntmps46
  go_wp2_with fail
  refine gen_calls fun w1 hw1 => ?_
  have hP : PlanCell w1 w.heap.size p n h := by rw [hw1]; exact (PlanCell.new _ _ _ rfl).alloc _
  have hQ : PlanCell w1 (w.heap.size + 1) p n' h' := by rw [hw1]; exact PlanCell.new _ _ _ (by simp)
  have hb1 : Below w.heap.size w w1 := by rw [hw1]; exact bl_alloc _ (below_alloc _ _)
  clear hw1
  refine ret_below (HCK.out _ hb1) fun w2 hb2 => ?_
  have hb2w := below_trans hb1 hb2
  have hP2 := hP.below hb2
  have hQ2 := hQ.below hb2
  have p0 := hP2.c0
  have p1 := hP2.c1
  have p2 := hP2.c2
  have q0 := hQ2.c0
  have q1 := hQ2.c1
  have q2 := hQ2.c2
  clear hP hQ hb1 hb2
  go_wp2_with fail
  refine ret_below (HPL.out _ hb2w) fun w3 hb3 => ?_
  have hb3w := below_trans hb2w hb3
  have HP3 := Lib.hid (hP2.below hb3)
  have HQ3 := Lib.hid (hQ2.below hb3)
  have p03 := HP3.out.c0
  have p13 := HP3.out.c1
  have p23 := HP3.out.c2
  have q03 := HQ3.out.c0
  have q13 := HQ3.out.c1
  have q23 := HQ3.out.c2
  have lq3 := HQ3.out.lt
  have i0 : (n : Int) ≤ (c : Int) := by omega
  have i1 : (0 : Int) ≤ (n : Int) := by omega
  clear p0 p1 p2 q0 q1 q2 hP2 hQ2 hb2w hb3 HCK HPL
  go_wp2_with (at_make; refine make_shs rfl _ _ rfl h' rfl rfl rfl (by omega) ?_; intro w4 hg4 hb4)
  have hgl := blk_lt hg4
  have HG4 := Lib.hid (GivenR.new hg4 (Nat.le_refl _))
  have HB4 := Lib.hid hb4
  clear hg4 hb4
  go_loopw [49] (fun i wr => ∃ (k : Nat) (Vs : List Value), k ≤ n ∧ i = .int .i64 k ∧ GivenR wr w3.heap.size w3.heap.size Vs (gvnL p n' h' M rs k) ∧ Below w3.heap.size w3 wr) (fun i _ => n - (intOf i).toNat)
  case atStart => exact ⟨0, _, Nat.zero_le _, rfl, by rw [gvn_zero]; exact HG4.out, HB4.out⟩
  case round =>
    obtain ⟨k, Vs, hk, rfl, hG, hbr⟩ := hrel
    have hbw := below_trans hb3w hbr
    have hsz := hbr.size
    by_cases hlt : k < n
    · have hkM : k < M.length := by omega
      obtain ⟨b1', o1, B1, c1, rfl, hb1, -, x0, x1, hX, -⟩ := (HA.out.below hbw).nat hkM
      obtain ⟨b2, o2, B2, c2, rfl, hb2, -, u0, hU, hUI⟩ := (HR.out.below hbw).at_ k (show k < rs.length by omega)
      have hUN := hUI.ints.nats
      obtain ⟨hx1, hx2, hLp⟩ := (HM.out.good HPN.out.p1 (by omega)).rng k hkM
      have hLl := HM.out.vlen hkM
      have hRl := HRS.out.len k hlt
      have hRp := HRS.out.lt k hlt
      have hRl2 : (rs.getD k []).length ≤ 1048576 := by
        have h0 : a.length * (n' - 1) ≤ 64 * 16 := Nat.mul_le_mul (by omega) (by have := HPN'.out.h7; have := HPN'.out.nh; omega)
        omega
      obtain ⟨DD, hDD⟩ : ∃ D, D = dealN p n' h' (vN M k) (rs.getD k []) := ⟨_, rfl⟩
      have hDl : DD.length = h' := by rw [hDD]; exact deal_len _ _ _ _ _
      have HSPL := Lib.hid (fun (W : World) (hb : Below wr.heap.size wr W) => show Calls Tryd.prog 42 #[planV p n h, planV p n' h', shV (hN M k : Nat) (.slice B1 (vN M k).length c1), .slice B2 (rs.getD k []).length c2] W (DealR DD h' W) from by
        rw [hDD]
        exact split_made p n h n' h' (hN M k) B1 B2 (vN M k) (rs.getD k []) c1 c2 _ W HPN.out HPN'.out (HBS.out.below (below_trans hbw hb) HBS.out.1) (hX.below hb) (hUN.below hb) hU hx1 hx2 hLp hRp (by omega) (by rw [hRl, hLl]) hRl2 rfl)
      have HDD := Lib.hid (And.intro hDD hDl)
      generalize hL : vN M k = L at *
      generalize hx : hN M k = x at *
      generalize hRd : rs.getD k [] = R at *
      have HLX := Lib.hid (And.intro hL (And.intro hx (And.intro hRd (And.intro hLl hRl))))
      have hP := HP3.out.below hbr
      have hQ := HQ3.out.below hbr
      have p0' := hP.c0
      have p1' := hP.c1
      have p2' := hP.c2
      have q0' := hQ.c0
      have q1' := hQ.c1
      have q2' := hQ.c2
      have lq' := hQ.lt
      have i0 : (0 : Int) ≤ (k : Int) := by omega
      have i1 : (k : Int) < (n : Int) := by omega
      have i2 : (k : Int) < (rs.length : Int) := by omega
      have HGV := Lib.hid hG
      clear hLl hRl hX hU hUI hUN hLp hRp hL hx hRd hDD hDl hP hQ hx1 hx2 hG p03 p13 p23 q03 q13 q23
      go_wp2_with fail
      refine gen_world fun w7 hw7 => ?_
      have hsc : ShCell w7 wr.heap.size x (.slice B1 L.length c1) := by rw [hw7]; exact ShCell.new _ _ rfl
      have hb7 : Below wr.heap.size wr w7 := by rw [hw7]; exact below_alloc _ _
      have hb7z := hb7.size
      have v0 := hsc.c0
      have v1 := hsc.c1
      have lg7 := hsc.lt
      have lpr : w.heap.size < wr.heap.size := by omega
      have lp7 : w.heap.size < w7.heap.size := by omega
      have lz7 : w.heap.size + 1 < w7.heap.size := by omega
      have lb7 : b2 < w7.heap.size := by omega
      have y0 := (hb7.cell (p := ⟨w.heap.size, 0, none⟩) lpr).trans p0'
      have y1 := (hb7.cell (p := ⟨w.heap.size, 1, none⟩) lpr).trans p1'
      have y2 := (hb7.cell (p := ⟨w.heap.size, 2, none⟩) lpr).trans p2'
      have y3 := (hb7.cell (p := ⟨w.heap.size + 1, 0, none⟩) lq').trans q0'
      have y4 := (hb7.cell (p := ⟨w.heap.size + 1, 1, none⟩) lq').trans q1'
      have y5 := (hb7.cell (p := ⟨w.heap.size + 1, 2, none⟩) lq').trans q2'
      have u0 := (hb7.cell (p := ⟨b2, o2 + k, none⟩) hb2).trans u0
      clear hw7 hsc p0' p1' p2' q0' q1' q2' x0 x1
      go_region_held3 (fun w' => w'.cell? ⟨w.heap.size, 0, none⟩ = some (.int .i64 (p : Int)) ∧ w'.cell? ⟨w.heap.size, 1, none⟩ = some (.int .i64 (n : Int)) ∧ w'.cell? ⟨w.heap.size, 2, none⟩ = some (.int .i64 (h : Int)) ∧ w'.cell? ⟨w.heap.size + 1, 0, none⟩ = some (.int .i64 (p : Int)) ∧ w'.cell? ⟨w.heap.size + 1, 1, none⟩ = some (.int .i64 (n' : Int)) ∧ w'.cell? ⟨w.heap.size + 1, 2, none⟩ = some (.int .i64 (h' : Int)) ∧ w'.cell? ⟨wr.heap.size, 0, none⟩ = some (.int .i64 (x : Int)) ∧ w'.cell? ⟨wr.heap.size, 1, none⟩ = some (.slice B1 L.length c1) ∧ w'.cell? ⟨b2, o2 + k, none⟩ = some (.slice B2 R.length c2)) (first | go_keep)
        (first | (go_at_call 42; refine (HSPL.out _ (below_trans hb7 (by (repeat (first | exact bl_refl _ | apply bl_drew | apply bl_alloc))))).mono ?_; rintro e w8 hR8; obtain ⟨DA, dc, rfl, hD, hb8⟩ := hR8.weak (w := w7) (by (repeat (first | exact bl_refl _ | apply bl_drew | apply bl_alloc))); have zd := hb8.size; have s0 := (hb8.cell (p := ⟨w.heap.size, 0, none⟩) lp7).trans y0; have s1 := (hb8.cell (p := ⟨w.heap.size, 1, none⟩) lp7).trans y1; have s2 := (hb8.cell (p := ⟨w.heap.size, 2, none⟩) lp7).trans y2; have s3 := (hb8.cell (p := ⟨w.heap.size + 1, 0, none⟩) lz7).trans y3; have s4 := (hb8.cell (p := ⟨w.heap.size + 1, 1, none⟩) lz7).trans y4; have s5 := (hb8.cell (p := ⟨w.heap.size + 1, 2, none⟩) lz7).trans y5; have s6 := (hb8.cell (p := ⟨wr.heap.size, 0, none⟩) lg7).trans v0; have s7 := (hb8.cell (p := ⟨wr.heap.size, 1, none⟩) lg7).trans v1; have s8 := (hb8.cell (p := ⟨b2, o2 + k, none⟩) lb7).trans u0))
      all_goals
        have hG8 := HGV.out.below (below_trans hb7 hb8)
        have hQ8 : ShP (fun b => w3.heap.size ≤ b ∧ b ≠ w3.heap.size ∧ ∀ u ∈ Vs, u.ownBlock ≠ some b) w8 DA dc (shL DD) := hD.mono fun b _ hb => ⟨by omega, by omega, fun u hu e => by have := HGV.out.own_lt u hu b e; omega⟩
        have hB8 : Below w3.heap.size w3 w8 := hbr.trans ((below_trans hb7 hb8).mono hsz)
        have HG8 := Lib.hid (And.intro hG8 (And.intro hQ8 hB8))
        clear hD hG8 hQ8 hB8 HGV hR8 s0 s1 s2 s3 s4 s5 s6 s7 s8 y0 y1 y2 y3 y4 y5 u0 v0 v1 HSPL
        go_wp2_with fail
        go_loopw [70] (fun i wq => ∃ (j : Nat) (Vs : List Value), j ≤ h' ∧ i = .int .i64 j ∧ GivenR wq w3.heap.size w3.heap.size Vs (midN p n' h' M rs k j) ∧ ShP (fun b => w3.heap.size ≤ b ∧ b ≠ w3.heap.size ∧ ∀ u ∈ Vs, u.ownBlock ≠ some b) wq DA dc (shL DD) ∧ Below w3.heap.size w3 wq) (fun i _ => h' - (intOf i).toNat)
        case atStart => exact ⟨0, Vs, Nat.zero_le _, rfl, by rw [mid_zero]; exact HG8.out.1, HG8.out.2.1, HG8.out.2.2⟩
        case round =>
          clear HG8 hbr hsz hbw hb7 hb7z hb8 zd hb1 hb2
          obtain ⟨j, Us, hj, rfl, hG, hQ, hbr⟩ := hrel
          have hsz := hbr.size
          by_cases hjl : j < h'
          · obtain ⟨b3, o3, B3, c3, rfl, hb3, -, z0, z1, -, hI3⟩ := hQ.nat (show j < DD.length by rw [HDD.out.2]; exact hjl)
            obtain ⟨hdx, hdl, hdp⟩ := deal_row (p := p) (n := n') (h := h') (sec := L) (ran := R) HPN.out.p1 hjl
            have hN := midN_at (p := p) (n' := n') (h' := h') (M := M) (rs := rs) (k := k) (j := j) hjl
            rw [if_neg (Nat.lt_irrefl _)] at hN
            obtain ⟨v, hv⟩ : ∃ v, Us[j]? = some v := ⟨_, List.getElem?_eq_getElem (show j < Us.length by rw [hG.len, midN_len]; exact hjl)⟩
            obtain ⟨VA, vc, rfl, -⟩ := (hG.row j v _ hv hN).read
            obtain ⟨hc0, hf0⟩ := hG.cell hv
            rw [← HDD.out.1] at hdx hdl hdp
            rw [hdx] at z0
            rw [shL_len, givenN_len] at hc0 hv
            have HJX := Lib.hid hdx
            have HQ := Lib.hid (And.intro hG (And.intro hQ (And.intro hN (And.intro hv hI3))))
            have HMS := Lib.hid (midN_succ (p := p) (n' := n') (h' := h') (M := M) (rs := rs) (k := k) hjl)
            rw [HLX.out.1, HLX.out.2.2.1, ← HDD.out.1] at HMS
            generalize hK : vN DD j = K at *
            have hgl' := hG.lt
            have hno := hG.no _ (List.mem_of_getElem? hv)
            have i3 : (0 : Int) ≤ (j : Int) := by omega
            have i4 : (j : Int) < (h' : Int) := by omega
            have HNO := Lib.hid hno
            clear hG hQ hN hv hI3 hdx hdl hdp hno hK
            go_wp2_with fail
            refine gen_world fun w9 hw9 => ?_
            have hsc : ShCell w9 wr.heap.size ((j : Int) + 1) (.slice B3 K.length c3) := by rw [hw9]; exact ShCell.new _ _ rfl
            have hb9 : Below wr.heap.size wr w9 := by rw [hw9]; exact below_alloc _ _
            have hb9z := hb9.size
            have v0 := hsc.c0
            have v1 := hsc.c1
            have lg9 := hsc.lt
            have l9 : w3.heap.size < w9.heap.size := by omega
            have g0 := (hb9.cell (p := ⟨w3.heap.size, j, none⟩) hgl').trans hc0
            have gf := (hb9.frozen (p := ⟨w3.heap.size, j, none⟩) hgl').trans hf0
            obtain ⟨hG, hQ, hN, hv, hI3⟩ := HQ.out
            have hG9 := hG.below hb9
            obtain ⟨H, e1, e2, e3⟩ := (hG9.row j _ _ hv hN).ex
            have hHl : H.length ≤ 1000 := by rw [e2, shL_len, givenN_len]; omega
            have HE := Lib.hid (And.intro e2 e3)
            have HG9 := Lib.hid hG9
            have HI9 := Lib.hid (hI3.keep (Kept.below hb9))
            have HQ9 := Lib.hid (hQ.below hb9)
            have HVN := Lib.hid (And.intro hv hN)
            clear hw9 hsc hG hQ hN hv hI3 hG9 e2 e3 hc0 hf0 z0 z1
            go_region_law (refine step_app_hv _ rfl (.tmp 80) (.tmp 82) rfl w9 w3.heap.size (.slice VA k vc) H ((j : Int) + 1) (.slice B3 K.length c3) rfl rfl ⟨rfl, rfl, rfl, rfl⟩ rfl e1 (by omega) (by omega) ?_; intro g6 c6 w6 hown6 hg6 hat6 hb6; have n1 := (World.cell?_of_block (a := ⟨w3.heap.size, j, none⟩) (hg6.block w3.heap.size l9 (fun e => HNO.out e.symm))).trans g0; have n2 := (World.frozen?_of_block (a := ⟨w3.heap.size, j, none⟩) (hg6.block w3.heap.size l9 (fun e => HNO.out e.symm))).trans gf)
            all_goals
              have hvb : ∀ b, (Value.slice (some ⟨g6, 0, none⟩) (H.length + 1) c6).ownBlock = some b → (Value.slice VA k vc).ownBlock = some b ∨ w9.heap.size ≤ b := fun b e2 => by
                have : g6 = b := Option.some.inj (show some g6 = some b from e2)
                subst this
                exact hat6
              have hA := GivenR.add (x := j + 1) (L := K) HG9.out HVN.out.1 HE.out.1 HE.out.2 HI9.out hown6 hg6 hvb
              rw [HMS.out] at hA
              have HAA := Lib.hid (And.intro hA (And.intro (parts_add HQ9.out HVN.out.1 hg6 hvb) (((hbr.trans (hb9.mono hsz)).trans hb6).setCell (p := ⟨w3.heap.size, j, none⟩) (Nat.le_refl _) (.slice (some ⟨g6, 0, none⟩) (H.length + 1) c6))))
              clear hA hvb hown6 hg6 hat6 n1 n2 e1
              go_wp2_with fail
              go_roundw
              case rel => exact ⟨j + 1, _, by omega, by go_num, HAA.out.1, HAA.out.2.1, HAA.out.2.2⟩
              case measure => simp [intOf]; omega
          · obtain rfl : j = h' := by omega
            rw [mid_all] at hG
            have HAA := Lib.hid (And.intro hG hbr)
            clear hG hQ
            go_wp2_with fail
            go_roundw
            case rel => exact ⟨k + 1, _, by omega, by go_num, HAA.out.1, HAA.out.2⟩
            case measure => simp [intOf]; omega
    · have hkn : n = k := by omega
      subst hkn
      obtain ⟨w5, hw5⟩ : ∃ w5, w5 = wr := ⟨_, rfl⟩
      subst hw5
      have HG5 := Lib.hid hG
      have HP5 := Lib.hid (HP3.out.below hbr)
      have HQ5 := Lib.hid (HQ3.out.below hbr)
      have hgl5 := hG.lt
      have lq5 := HQ5.out.lt
      have hb5w := hbw
      have HMT := HM.out.take n
      have hMl : (M.take n).length = n := by rw [List.length_take]; omega
      have hsl : (hsN (M.take n)).length = n := by rw [hsN_len, hMl]
      obtain ⟨F, HF, -, -⟩ := HMT.ex
      have hnd := HF.nd
      have hrg : ∀ x ∈ hsN (M.take n), 1 ≤ x ∧ x ≤ h := fun x hx => by
        obtain ⟨s, hs, rfl⟩ := List.mem_map.1 hx
        exact ⟨(HF.on s hs).1, (HF.on s hs).2.1⟩
      have HHL := Lib.hid (fun (W : World) (hb : Below w.heap.size w W) => show Calls Tryd.prog 80 #[.slice A n c] W (fun e w' => ∃ B cb, e = .returned (.slice B n cb) ∧ NatsAt w' B (hsN (M.take n)) ∧ Below W.heap.size W w') from by
        have := holders_any A c (M.take n) W (by rw [← shL_take]; exact (HA.out.below hb).take n) (by omega)
        rw [hMl] at this
        refine this.mono ?_
        rintro e w' ⟨v, rfl, ho, hb2⟩
        obtain ⟨B, cb, rfl, hN, -⟩ := own_sl ho rfl
        rw [hsl]
        exact ⟨B, cb, rfl, hN, hb2⟩)
      have HSS := Lib.hid (And.intro hsl (And.intro hnd hrg))
      clear hG hbw hsz hbr hMl hsl hnd hrg HF HMT HP3 HQ3 HG4 HB4 hgl lq3 HR
      go_wp2_with fail
      go_loopw [18, 89] (fun o i wr => ∃ j : Nat, j ≤ h' ∧ i = .int .i64 j ∧ RowsV (fun b => w5.heap.size ≤ b) wr w5.heap.size o (shL ((movedN p n' h' M rs n).take j)) ∧ Below w5.heap.size w5 wr) (fun _ i _ => h' - (intOf i).toNat)
      case atStart => exact ⟨0, Nat.zero_le _, rfl, RowsV.nil _ _ _, Below.refl _ _⟩
      case round =>
        obtain ⟨j, hj, rfl, hR, hbr⟩ := hrel
        obtain ⟨OA, oc, hv, hRd⟩ := hR.read
        have hlk : (shL ((movedN p n' h' M rs n).take j)).length = j := by rw [shL_len, List.length_take, movedN_len]; omega
        rw [hlk] at hv
        subst hv
        have hsz := hbr.size
        have hbw := below_trans hb5w hbr
        have HRr := Lib.hid hR
        have HLK := Lib.hid hlk
        have HRd := Lib.hid hRd
        clear hR hlk hRd
        by_cases hjl : j < h'
        · have hG := HG5.out.below hbr
          have hgn : (gvnL p n' h' M rs n).length = h' := by simp [gvnL]
          have hgj : (gvnL p n' h' M rs n)[j]'(by rw [hgn]; exact hjl) = givenN p n' h' M rs n j := by simp [gvnL]
          obtain ⟨B1, c1, hv, hX⟩ := hG.at_ (k := j) (by rw [hgn]; exact hjl)
          rw [hgj] at hv hX
          rw [givenN_len] at hv
          obtain ⟨gx, -⟩ := hG.cell hv
          have hPT := given_parts (k := j) (rs := rs) (t := n) (n' := n') (h' := h') HPN.out HM.out hn hjl
          have HJN := Lib.hid (fun (W : World) (hb : Below wr.heap.size wr W) (B : Option Addr) (cb : Nat) (hN : NatsAt W B (hsN (M.take n))) => show Calls Tryd.prog 44 #[planV p n h, planV p n' h', .slice B n cb, .slice B1 n c1] W (NewShrE ((j + 1 : Nat) : Int) (joinV p (wsN p (hsN (M.take n)) 0) (fun i => vN (givenN p n' h' M rs n j) i) n) 0 W) from
            join_made p n h n' h' (j + 1) a.length n B B1 cb c1 (hsN (M.take n)) (givenN p n' h' M rs n j) W HPN.out HPN'.out (HBS.out.below (below_trans hbw hb) HBS.out.1) hN (hX.below hb) HSS.out.2.1 HSS.out.2.2 hPT (by omega) HSS.out.1 (by rw [givenN_len]) (Nat.le_refl _) (by omega))
          have HTK := Lib.hid (movedN_take (p := p) (n' := n') (h' := h') (M := M) (rs := rs) (t := n) hjl)
          generalize joinV p (wsN p (hsN (M.take n)) 0) (fun i => vN (givenN p n' h' M rs n j) i) n = V at *
          have hp5 := HP5.out.below hbr
          have hq5 := HQ5.out.below hbr
          have y0 := hp5.c0
          have y1 := hp5.c1
          have y2 := hp5.c2
          have y3 := hq5.c0
          have y4 := hq5.c1
          have y5 := hq5.c2
          have lzr := hq5.lt
          have lpr : w.heap.size < wr.heap.size := by omega
          have i3 : (0 : Int) ≤ (j : Int) := by omega
          have i4 : (j : Int) < (h' : Int) := by omega
          clear hG hgj hgn hv hX hPT hp5 hq5
          go_wp2_with fail
          go_region_held3 (fun w' => w'.cell? ⟨w.heap.size, 0, none⟩ = some (.int .i64 (p : Int)) ∧ w'.cell? ⟨w.heap.size, 1, none⟩ = some (.int .i64 (n : Int)) ∧ w'.cell? ⟨w.heap.size, 2, none⟩ = some (.int .i64 (h : Int)) ∧ w'.cell? ⟨w.heap.size + 1, 0, none⟩ = some (.int .i64 (p : Int)) ∧ w'.cell? ⟨w.heap.size + 1, 1, none⟩ = some (.int .i64 (n' : Int)) ∧ w'.cell? ⟨w.heap.size + 1, 2, none⟩ = some (.int .i64 (h' : Int))) (first | (go_keep; done) | (exact ⟨keep_set2 (by dsimp only; omega) t0, keep_set2 (by dsimp only; omega) t1, keep_set2 (by dsimp only; omega) t2, keep_set2 (by dsimp only; omega) t3, keep_set2 (by dsimp only; omega) t4, keep_set2 (by dsimp only; omega) t5⟩))
            (first
              | (go_at_call 80; refine (HHL.out _ (below_trans hbw (by (repeat (first | exact bl_refl _ | apply bl_drew | apply bl_alloc))))).mono ?_; rintro e w8 ⟨HB, hcb, rfl, hN8, hb8⟩; (first
                  | (have hb8' : Below wr.heap.size wr w8 := below_undrew1 hb8)
                  | (have hb8A : Below (wr.alloc shO).heap.size (wr.alloc shO) w8 := below_undrew1 hb8; have hb8' : Below wr.heap.size wr w8 := below_trans (below_alloc _ _) hb8A; have HRz := Lib.hid ((ShCell.new (w := wr) 0 (.slice none 0 0) rfl).below hb8A); have fz0 := HRz.out.frozen 0; have fz1 := HRz.out.frozen 1; have rz0 := HRz.out.c0; have rz1 := HRz.out.c1)); have zd := hb8'.size; have s0 := (hb8'.cell (p := ⟨w.heap.size, 0, none⟩) lpr).trans y0; have s1 := (hb8'.cell (p := ⟨w.heap.size, 1, none⟩) lpr).trans y1; have s2 := (hb8'.cell (p := ⟨w.heap.size, 2, none⟩) lpr).trans y2; have s3 := (hb8'.cell (p := ⟨w.heap.size + 1, 0, none⟩) lzr).trans y3; have s4 := (hb8'.cell (p := ⟨w.heap.size + 1, 1, none⟩) lzr).trans y4; have s5 := (hb8'.cell (p := ⟨w.heap.size + 1, 2, none⟩) lzr).trans y5)
              | (go_at_call 44; refine (HJN.out _ (by (repeat (first | exact bl_refl _ | exact hb8' | apply bl_drew | apply bl_alloc))) HB hcb (hN8.below (by (repeat (first | exact bl_refl _ | apply bl_drew | apply bl_alloc))))).mono ?_; rintro e w9 ⟨SAe, sce, rfl, hSe, hOKe, hOffe, hbe⟩; (first
                  | (have HZ := HRz; have hbe' : Below wr.heap.size wr w9 := below_trans hb8' hbe; have HRy := Lib.hid (HRz.out.below hbe); have fy0 := HRy.out.frozen 0; have fy1 := HRy.out.frozen 1; have ry0 := HRy.out.c0; have ry1 := HRy.out.c1)
                  | (have hbeA : Below (w8.alloc shO).heap.size (w8.alloc shO) w9 := hbe; have hbe' : Below wr.heap.size wr w9 := below_trans hb8' (below_trans (below_alloc _ _) hbeA); have HRy := Lib.hid ((ShCell.new (w := w8) 0 (.slice none 0 0) rfl).below hbeA); have fy0 := HRy.out.frozen 0; have fy1 := HRy.out.frozen 1; have ry0 := HRy.out.c0; have ry1 := HRy.out.c1)
                  | (have hbe' : Below wr.heap.size wr w9 := below_trans hb8' hbe)); have t0 := (hbe'.cell (p := ⟨w.heap.size, 0, none⟩) lpr).trans y0; have t1 := (hbe'.cell (p := ⟨w.heap.size, 1, none⟩) lpr).trans y1; have t2 := (hbe'.cell (p := ⟨w.heap.size, 2, none⟩) lpr).trans y2; have t3 := (hbe'.cell (p := ⟨w.heap.size + 1, 0, none⟩) lzr).trans y3; have t4 := (hbe'.cell (p := ⟨w.heap.size + 1, 1, none⟩) lzr).trans y4; have t5 := (hbe'.cell (p := ⟨w.heap.size + 1, 2, none⟩) lzr).trans y5))
          all_goals refine gen_last fun wf hwf => ?_
          · have hN9 : ShNew wr wf w9.heap.size ((j : Int) + 1) SAe sce V := hwf ▸ ShNew.late hbe' hSe hOKe (fun b off e => by have := hOffe b off e; omega)
            obtain ⟨g, hg⟩ : ∃ g, g = w9.heap.size := ⟨_, rfl⟩
            rw [← hg] at hN9 ⊢
            clear hg hwf
            have g0 := hN9.cell.c0
            have g1 := hN9.cell.c1
            have lg := hN9.cell.lt
            have HN9 := Lib.hid hN9
            have hz9 := hN9.below.size
            obtain ⟨W, hW⟩ : ∃ W, W = wf.alloc (.cells #[.int .i64 ((j : Int) + 1), .slice SAe V.length sce] 53) := ⟨_, rfl⟩
            have hbW : Below wr.heap.size wr W := by rw [hW]; exact bl_alloc _ hN9.below
            have hWz : wf.heap.size ≤ W.heap.size := by rw [hW]; exact (below_alloc _ _).size
            obtain ⟨H, e1, e2, e3⟩ := (HRr.out.below hbW).ex
            have HE3 := Lib.hid (And.intro e1 (And.intro e2 e3))
            have hHl : H.length ≤ 100000 := by rw [e2, HLK.out]; omega
            clear e2 e3 hN9 hOffe hSe hOKe
            subst hW
            go_wp2_with (at_builtin; refine app_hv rfl (.tmp 105) (.tmp 107) rfl (base := w5.heap.size) (H := H) (v := .slice OA j oc) (((j : Int) + 1), .slice SAe V.length sce) rfl e1 rfl (heap_alloc_new _ _) rfl (by omega) (by omega) ?_; intro v4 wg hown4 hg4 hb4 hv4)
            have HB4 := Lib.hid (hbr.trans ((hbW.mono hsz).trans hb4))
            have HR4 := Lib.hid (RowsV.put (x := j + 1) HRr.out HN9.out hsz rfl HE3.out hown4 hg4 hv4 HTK.out)
            clear hown4 hg4 hv4 e1
            go_roundw
            case rel => exact ⟨j + 1, by omega, by go_num, HR4.out, HB4.out⟩
            case measure => simp [intOf]; omega
          · have hN9 : ShNew wr wf w8.heap.size ((j : Int) + 1) SAe sce V := hwf ▸ ShNew.early (ShCell.new (w := w8) 0 (.slice none 0 0) rfl) zd (bl_alloc _ hb8') hbe hSe hOKe hOffe
            obtain ⟨g, hg⟩ : ∃ g, g = w8.heap.size := ⟨_, rfl⟩
            rw [← hg] at hN9 ⊢
            clear hg hwf
            have g0 := hN9.cell.c0
            have g1 := hN9.cell.c1
            have lg := hN9.cell.lt
            have HN9 := Lib.hid hN9
            have hz9 := hN9.below.size
            obtain ⟨W, hW⟩ : ∃ W, W = wf.alloc (.cells #[.int .i64 ((j : Int) + 1), .slice SAe V.length sce] 53) := ⟨_, rfl⟩
            have hbW : Below wr.heap.size wr W := by rw [hW]; exact bl_alloc _ hN9.below
            have hWz : wf.heap.size ≤ W.heap.size := by rw [hW]; exact (below_alloc _ _).size
            obtain ⟨H, e1, e2, e3⟩ := (HRr.out.below hbW).ex
            have HE3 := Lib.hid (And.intro e1 (And.intro e2 e3))
            have hHl : H.length ≤ 100000 := by rw [e2, HLK.out]; omega
            clear e2 e3 hN9 hOffe hSe hOKe
            subst hW
            go_wp2_with (at_builtin; refine app_hv rfl (.tmp 105) (.tmp 107) rfl (base := w5.heap.size) (H := H) (v := .slice OA j oc) (((j : Int) + 1), .slice SAe V.length sce) rfl e1 rfl (heap_alloc_new _ _) rfl (by omega) (by omega) ?_; intro v4 wg hown4 hg4 hb4 hv4)
            have HB4 := Lib.hid (hbr.trans ((hbW.mono hsz).trans hb4))
            have HR4 := Lib.hid (RowsV.put (x := j + 1) HRr.out HN9.out hsz rfl HE3.out hown4 hg4 hv4 HTK.out)
            clear hown4 hg4 hv4 e1
            go_roundw
            case rel => exact ⟨j + 1, by omega, by go_num, HR4.out, HB4.out⟩
            case measure => simp [intOf]; omega
          · have hN9 : ShNew wr wf wr.heap.size ((j : Int) + 1) SAe sce V := hwf ▸ ShNew.early HRz.out (Nat.le_refl _) hb8' hbe hSe hOKe hOffe
            obtain ⟨g, hg⟩ : ∃ g, g = wr.heap.size := ⟨_, rfl⟩
            rw [← hg] at hN9 ⊢
            clear hg hwf
            have g0 := hN9.cell.c0
            have g1 := hN9.cell.c1
            have lg := hN9.cell.lt
            have HN9 := Lib.hid hN9
            have hz9 := hN9.below.size
            obtain ⟨W, hW⟩ : ∃ W, W = wf.alloc (.cells #[.int .i64 ((j : Int) + 1), .slice SAe V.length sce] 53) := ⟨_, rfl⟩
            have hbW : Below wr.heap.size wr W := by rw [hW]; exact bl_alloc _ hN9.below
            have hWz : wf.heap.size ≤ W.heap.size := by rw [hW]; exact (below_alloc _ _).size
            obtain ⟨H, e1, e2, e3⟩ := (HRr.out.below hbW).ex
            have HE3 := Lib.hid (And.intro e1 (And.intro e2 e3))
            have hHl : H.length ≤ 100000 := by rw [e2, HLK.out]; omega
            clear e2 e3 hN9 hOffe hSe hOKe
            subst hW
            go_wp2_with (at_builtin; refine app_hv rfl (.tmp 105) (.tmp 107) rfl (base := w5.heap.size) (H := H) (v := .slice OA j oc) (((j : Int) + 1), .slice SAe V.length sce) rfl e1 rfl (heap_alloc_new _ _) rfl (by omega) (by omega) ?_; intro v4 wg hown4 hg4 hb4 hv4)
            have HB4 := Lib.hid (hbr.trans ((hbW.mono hsz).trans hb4))
            have HR4 := Lib.hid (RowsV.put (x := j + 1) HRr.out HN9.out hsz rfl HE3.out hown4 hg4 hv4 HTK.out)
            clear hown4 hg4 hv4 e1
            go_roundw
            case rel => exact ⟨j + 1, by omega, by go_num, HR4.out, HB4.out⟩
            case measure => simp [intOf]; omega
        · obtain rfl : j = h' := by omega
          have hX := HRd.out
          rw [List.take_of_length_le (by rw [movedN_len]; exact Nat.le_refl _)] at hX
          have hz6 := hb5w.size
          have HX := Lib.hid (hX.mono (Q := fun b => w.heap.size ≤ b) (fun b _ hb => by omega))
          clear hX
          go_wp2_with fail
          go_ret2
          exact ⟨OA, oc, rfl, HX.out, hbw⟩
end Go.Proofs.YtlhipgejiacklaaDoor
namespace Go.Proofs.YtlhipgejiacklaaDoor
open Go.RowKit
attribute [local go_sem high] sliced_low

/-- A good list whose shares have m values each. -/
structure GoodW (p h m : Nat) (M : List ShN) : Prop where
  gd : GoodN p h M
  vl : ∀ k, k < M.length → (vN M k).length = m
theorem GoodW.good {p h m : Nat} {M : List ShN} (H : GoodW p h m M) (_ : 1 ≤ p) (_ : m ≤ 2048) : GoodN p h M := H.gd
theorem GoodW.vlen {p h m : Nat} {M : List ShN} (H : GoodW p h m M) {k : Nat} (hk : k < M.length) : (vN M k).length = m := H.vl k hk
theorem vN_tk {M : List ShN} {n k : Nat} (hk : k < n) : vN (M.take n) k = vN M k := by
  unfold vN
  rw [List.getD_eq_getElem?_getD, List.getD_eq_getElem?_getD, List.getElem?_take, if_pos hk]
theorem GoodW.take {p h m n : Nat} {M : List ShN} (H : GoodW p h m M) (hn : n ≤ M.length) : GoodW p h m (M.take n) :=
  ⟨H.gd.take n hn, fun k hk => by
    have h1 : k < n := Nat.lt_of_lt_of_le hk (List.length_take_le _ _)
    rw [vN_tk h1]; exact H.vl k (by omega)⟩
theorem GoodW.hrg {p h m : Nat} {M : List ShN} (H : GoodW p h m M) : ∀ x ∈ hsN M, 1 ≤ x ∧ x ≤ h := fun x hx => by
  obtain ⟨k, hk, rfl⟩ := List.getElem_of_mem hx
  have hk' : k < M.length := by rw [hsN_len] at hk; exact hk
  have := H.gd.rng k hk'
  have e : (hsN M)[k] = hN M k := by simp [hsN, hN, List.getD_eq_getElem?_getD, hk']
  rw [e]; exact ⟨this.1, this.2.1⟩
theorem GoodN.wide {p h : Nat} {M : List ShN} (g : GoodN p h M) : GoodW p h (vN M 0).length M := ⟨g, g.len⟩
theorem given_partsW {p n h n' h' t k m : Nat} {M : List ShN} {rs : List (List Nat)} (P : PlanN p n h) (H : GoodW p h m M) (ht : t ≤ M.length) (hk : k < h') : Parts p h' (k + 1) m (givenN p n' h' M rs t k) := by
  refine ⟨fun i hi => ?_, by omega, by omega, fun i hi => ?_, fun i hi => ?_⟩
  · rw [givenN_len] at hi; exact (givenN_at hi).1
  · rw [givenN_len] at hi
    rw [(givenN_at hi).2, (deal_row P.p1 hk).2.1, H.vlen (by omega)]
  · rw [givenN_len] at hi
    rw [(givenN_at hi).2]; exact (deal_row P.p1 hk).2.2
theorem cmE_good {p n h : Nat} {M : List ShN} (P : PlanN p n h) (g : GoodN p h M) (hn : n ≤ M.length) : cmE p n h (shL M) = 0 := by
  unfold cmE
  rw [P.pl, ← gdB_yes (gd_back g), shL_len]
  simp
  omega
set_option maxRecDepth 100000 in
theorem check_anyS {P : Nat → Prop} (p n h : Nat) (A : Option Addr) (c : Nat) (S : List Shr) (w : World) (hB : Bases w) (hS : ShP P w A c S) (hsh : Short S) (hl : S.length ≤ 1048576) :
    Calls Tryd.prog 79 #[planV p n h, .slice A S.length c] w (RetB (.int .i64 (cmE p n h S)) w) := by
  have HC := Lib.hid (fun (W : World) (hb : Below w.heap.size w W) => check_share p n h A c S W (hB.below hb hB.1) (hS.below hb) hsh hl)
  clear hS hB
  go_enter Tryd.func79, Tryd.ntmps79
  go_wp2_with fail
  refine ret_below (HC.out _ (below_alloc _ _)) fun w1 hb1 => ?_
  go_wp2_with fail
  go_ret
  exact RetB.int rfl (below_trans (below_alloc _ _) hb1)
theorem check_good {P : Nat → Prop} {p n h m : Nat} {M : List ShN} (H : GoodW p h m M) (PN : PlanN p n h) (A : Option Addr) (c k : Nat) (w : World) (hB : Bases w) (hS : ShP P w A c (shL M)) (hm : m ≤ 2048) (hl : M.length ≤ 1048576) (hk : k = M.length) (hn : n ≤ M.length) :
    Calls Tryd.prog 79 #[planV p n h, .slice A k c] w (RetB (.int .i64 0) w) := by
  subst hk
  have := check_anyS p n h A c (shL M) w hB hS (short_shL fun k hk => by rw [H.vl k hk]; omega) (by rw [shL_len]; exact hl)
  rw [cmE_good PN H.gd hn, shL_len] at this; exact this

set_option maxRecDepth 100000 in
set_option maxHeartbeats 8000000 in
theorem move_good {P P' : Nat → Prop} (p n h n' h' : Nat) (A RA : Option Addr) (c rc kM kr : Nat) (m : Nat) (M : List ShN) (rs : List (List Nat)) (w : World) (PN : PlanN p n h) (PN' : PlanN p n' h') (hB : Bases w) (H : GoodW p h m M) (hm : m ≤ 64) (hA : ShP P w A c (shL M)) (hR : LstP P' w RA rc rs)
    (hn : n ≤ M.length) (hl : M.length ≤ 16) (hkM : kM = M.length) (hkr : kr = rs.length) (hr : n ≤ rs.length) (hr2 : rs.length ≤ 1000) (hrs : Rands p n' m n rs) :
    Calls Tryd.prog 46 #[planV p n h, planV p n' h', .slice A kM c, .slice RA kr rc] w (DealR (movedN p n' h' M rs n) h' w) := by
  subst hkM hkr
  have hn1 := PN.n1
  have hp1 := PN.p1
  have hcap := hA.cap
  have hh'7 := PN'.h7
  have HCK := Lib.hid (fun (W : World) (hb : Below w.heap.size w W) => check_good (k := M.length) (m := m) H PN A c W (hB.below hb hB.1) (hA.below hb) (by omega) (by omega) rfl hn)
  have HPL := Lib.hid (fun (W : World) (hb : Below w.heap.size w W) => plans_made p n h n' h' W PN PN' (hB.below hb hB.1))
  have HBS := Lib.hid hB
  have HA := Lib.hid hA
  have HR := Lib.hid hR
  have HM := Lib.hid H
  have HPN := Lib.hid PN
  have HPN' := Lib.hid PN'
  have HRS := Lib.hid hrs
  clear hB hA hR H PN PN' hrs
  go_enter Tryd.func46, Tryd.ntmps46
  go_wp2_with fail
  refine gen_calls fun w1 hw1 => ?_
  have hP : PlanCell w1 w.heap.size p n h := by rw [hw1]; exact (PlanCell.new _ _ _ rfl).alloc _
  have hQ : PlanCell w1 (w.heap.size + 1) p n' h' := by rw [hw1]; exact PlanCell.new _ _ _ (by simp)
  have hb1 : Below w.heap.size w w1 := by rw [hw1]; exact bl_alloc _ (below_alloc _ _)
  clear hw1
  refine ret_below (HCK.out _ hb1) fun w2 hb2 => ?_
  have hb2w := below_trans hb1 hb2
  have hP2 := hP.below hb2
  have hQ2 := hQ.below hb2
  have p0 := hP2.c0
  have p1 := hP2.c1
  have p2 := hP2.c2
  have q0 := hQ2.c0
  have q1 := hQ2.c1
  have q2 := hQ2.c2
  clear hP hQ hb1 hb2
  go_wp2_with fail
  refine ret_below (HPL.out _ hb2w) fun w3 hb3 => ?_
  have hb3w := below_trans hb2w hb3
  have HP3 := Lib.hid (hP2.below hb3)
  have HQ3 := Lib.hid (hQ2.below hb3)
  have p03 := HP3.out.c0
  have p13 := HP3.out.c1
  have p23 := HP3.out.c2
  have q03 := HQ3.out.c0
  have q13 := HQ3.out.c1
  have q23 := HQ3.out.c2
  have lq3 := HQ3.out.lt
  have i0 : (n : Int) ≤ (c : Int) := by omega
  have i1 : (0 : Int) ≤ (n : Int) := by omega
  clear p0 p1 p2 q0 q1 q2 hP2 hQ2 hb2w hb3 HCK HPL
  go_wp2_with (at_make; refine make_shs rfl _ _ rfl h' rfl rfl rfl (by omega) ?_; intro w4 hg4 hb4)
  have hgl := blk_lt hg4
  have HG4 := Lib.hid (GivenR.new hg4 (Nat.le_refl _))
  have HB4 := Lib.hid hb4
  clear hg4 hb4
  go_loopw [49] (fun i wr => ∃ (k : Nat) (Vs : List Value), k ≤ n ∧ i = .int .i64 k ∧ GivenR wr w3.heap.size w3.heap.size Vs (gvnL p n' h' M rs k) ∧ Below w3.heap.size w3 wr) (fun i _ => n - (intOf i).toNat)
  case atStart => exact ⟨0, _, Nat.zero_le _, rfl, by rw [gvn_zero]; exact HG4.out, HB4.out⟩
  case round =>
    obtain ⟨k, Vs, hk, rfl, hG, hbr⟩ := hrel
    have hbw := below_trans hb3w hbr
    have hsz := hbr.size
    by_cases hlt : k < n
    · have hkM : k < M.length := by omega
      obtain ⟨b1', o1, B1, c1, rfl, hb1, -, x0, x1, hX, -⟩ := (HA.out.below hbw).nat hkM
      obtain ⟨b2, o2, B2, c2, rfl, hb2, -, u0, hU, hUI⟩ := (HR.out.below hbw).at_ k (show k < rs.length by omega)
      have hUN := hUI.ints.nats
      obtain ⟨hx1, hx2, hLp⟩ := (HM.out.good HPN.out.p1 (by omega)).rng k hkM
      have hLl := HM.out.vlen hkM
      have hRl := HRS.out.len k hlt
      have hRp := HRS.out.lt k hlt
      have hRl2 : (rs.getD k []).length ≤ 1048576 := by
        have h0 : m * (n' - 1) ≤ 64 * 16 := Nat.mul_le_mul (by omega) (by have := HPN'.out.h7; have := HPN'.out.nh; omega)
        omega
      obtain ⟨DD, hDD⟩ : ∃ D, D = dealN p n' h' (vN M k) (rs.getD k []) := ⟨_, rfl⟩
      have hDl : DD.length = h' := by rw [hDD]; exact deal_len _ _ _ _ _
      have HSPL := Lib.hid (fun (W : World) (hb : Below wr.heap.size wr W) => show Calls Tryd.prog 42 #[planV p n h, planV p n' h', shV (hN M k : Nat) (.slice B1 (vN M k).length c1), .slice B2 (rs.getD k []).length c2] W (DealR DD h' W) from by
        rw [hDD]
        exact split_made p n h n' h' (hN M k) B1 B2 (vN M k) (rs.getD k []) c1 c2 _ W HPN.out HPN'.out (HBS.out.below (below_trans hbw hb) HBS.out.1) (hX.below hb) (hUN.below hb) hU hx1 hx2 hLp hRp (by omega) (by rw [hRl, hLl]) hRl2 rfl)
      have HDD := Lib.hid (And.intro hDD hDl)
      generalize hL : vN M k = L at *
      generalize hx : hN M k = x at *
      generalize hRd : rs.getD k [] = R at *
      have HLX := Lib.hid (And.intro hL (And.intro hx (And.intro hRd (And.intro hLl hRl))))
      have hP := HP3.out.below hbr
      have hQ := HQ3.out.below hbr
      have p0' := hP.c0
      have p1' := hP.c1
      have p2' := hP.c2
      have q0' := hQ.c0
      have q1' := hQ.c1
      have q2' := hQ.c2
      have lq' := hQ.lt
      have i0 : (0 : Int) ≤ (k : Int) := by omega
      have i1 : (k : Int) < (n : Int) := by omega
      have i2 : (k : Int) < (rs.length : Int) := by omega
      have HGV := Lib.hid hG
      clear hLl hRl hX hU hUI hUN hLp hRp hL hx hRd hDD hDl hP hQ hx1 hx2 hG p03 p13 p23 q03 q13 q23
      go_wp2_with fail
      refine gen_world fun w7 hw7 => ?_
      have hsc : ShCell w7 wr.heap.size x (.slice B1 L.length c1) := by rw [hw7]; exact ShCell.new _ _ rfl
      have hb7 : Below wr.heap.size wr w7 := by rw [hw7]; exact below_alloc _ _
      have hb7z := hb7.size
      have v0 := hsc.c0
      have v1 := hsc.c1
      have lg7 := hsc.lt
      have lpr : w.heap.size < wr.heap.size := by omega
      have lp7 : w.heap.size < w7.heap.size := by omega
      have lz7 : w.heap.size + 1 < w7.heap.size := by omega
      have lb7 : b2 < w7.heap.size := by omega
      have y0 := (hb7.cell (p := ⟨w.heap.size, 0, none⟩) lpr).trans p0'
      have y1 := (hb7.cell (p := ⟨w.heap.size, 1, none⟩) lpr).trans p1'
      have y2 := (hb7.cell (p := ⟨w.heap.size, 2, none⟩) lpr).trans p2'
      have y3 := (hb7.cell (p := ⟨w.heap.size + 1, 0, none⟩) lq').trans q0'
      have y4 := (hb7.cell (p := ⟨w.heap.size + 1, 1, none⟩) lq').trans q1'
      have y5 := (hb7.cell (p := ⟨w.heap.size + 1, 2, none⟩) lq').trans q2'
      have u0 := (hb7.cell (p := ⟨b2, o2 + k, none⟩) hb2).trans u0
      clear hw7 hsc p0' p1' p2' q0' q1' q2' x0 x1
      go_region_held3 (fun w' => w'.cell? ⟨w.heap.size, 0, none⟩ = some (.int .i64 (p : Int)) ∧ w'.cell? ⟨w.heap.size, 1, none⟩ = some (.int .i64 (n : Int)) ∧ w'.cell? ⟨w.heap.size, 2, none⟩ = some (.int .i64 (h : Int)) ∧ w'.cell? ⟨w.heap.size + 1, 0, none⟩ = some (.int .i64 (p : Int)) ∧ w'.cell? ⟨w.heap.size + 1, 1, none⟩ = some (.int .i64 (n' : Int)) ∧ w'.cell? ⟨w.heap.size + 1, 2, none⟩ = some (.int .i64 (h' : Int)) ∧ w'.cell? ⟨wr.heap.size, 0, none⟩ = some (.int .i64 (x : Int)) ∧ w'.cell? ⟨wr.heap.size, 1, none⟩ = some (.slice B1 L.length c1) ∧ w'.cell? ⟨b2, o2 + k, none⟩ = some (.slice B2 R.length c2)) (first | go_keep)
        (first | (go_at_call 42; refine (HSPL.out _ (below_trans hb7 (by (repeat (first | exact bl_refl _ | apply bl_drew | apply bl_alloc))))).mono ?_; rintro e w8 hR8; obtain ⟨DA, dc, rfl, hD, hb8⟩ := hR8.weak (w := w7) (by (repeat (first | exact bl_refl _ | apply bl_drew | apply bl_alloc))); have zd := hb8.size; have s0 := (hb8.cell (p := ⟨w.heap.size, 0, none⟩) lp7).trans y0; have s1 := (hb8.cell (p := ⟨w.heap.size, 1, none⟩) lp7).trans y1; have s2 := (hb8.cell (p := ⟨w.heap.size, 2, none⟩) lp7).trans y2; have s3 := (hb8.cell (p := ⟨w.heap.size + 1, 0, none⟩) lz7).trans y3; have s4 := (hb8.cell (p := ⟨w.heap.size + 1, 1, none⟩) lz7).trans y4; have s5 := (hb8.cell (p := ⟨w.heap.size + 1, 2, none⟩) lz7).trans y5; have s6 := (hb8.cell (p := ⟨wr.heap.size, 0, none⟩) lg7).trans v0; have s7 := (hb8.cell (p := ⟨wr.heap.size, 1, none⟩) lg7).trans v1; have s8 := (hb8.cell (p := ⟨b2, o2 + k, none⟩) lb7).trans u0))
      all_goals
        have hG8 := HGV.out.below (below_trans hb7 hb8)
        have hQ8 : ShP (fun b => w3.heap.size ≤ b ∧ b ≠ w3.heap.size ∧ ∀ u ∈ Vs, u.ownBlock ≠ some b) w8 DA dc (shL DD) := hD.mono fun b _ hb => ⟨by omega, by omega, fun u hu e => by have := HGV.out.own_lt u hu b e; omega⟩
        have hB8 : Below w3.heap.size w3 w8 := hbr.trans ((below_trans hb7 hb8).mono hsz)
        have HG8 := Lib.hid (And.intro hG8 (And.intro hQ8 hB8))
        clear hD hG8 hQ8 hB8 HGV hR8 s0 s1 s2 s3 s4 s5 s6 s7 s8 y0 y1 y2 y3 y4 y5 u0 v0 v1 HSPL
        go_wp2_with fail
        go_loopw [70] (fun i wq => ∃ (j : Nat) (Vs : List Value), j ≤ h' ∧ i = .int .i64 j ∧ GivenR wq w3.heap.size w3.heap.size Vs (midN p n' h' M rs k j) ∧ ShP (fun b => w3.heap.size ≤ b ∧ b ≠ w3.heap.size ∧ ∀ u ∈ Vs, u.ownBlock ≠ some b) wq DA dc (shL DD) ∧ Below w3.heap.size w3 wq) (fun i _ => h' - (intOf i).toNat)
        case atStart => exact ⟨0, Vs, Nat.zero_le _, rfl, by rw [mid_zero]; exact HG8.out.1, HG8.out.2.1, HG8.out.2.2⟩
        case round =>
          clear HG8 hbr hsz hbw hb7 hb7z hb8 zd hb1 hb2
          obtain ⟨j, Us, hj, rfl, hG, hQ, hbr⟩ := hrel
          have hsz := hbr.size
          by_cases hjl : j < h'
          · obtain ⟨b3, o3, B3, c3, rfl, hb3, -, z0, z1, -, hI3⟩ := hQ.nat (show j < DD.length by rw [HDD.out.2]; exact hjl)
            obtain ⟨hdx, hdl, hdp⟩ := deal_row (p := p) (n := n') (h := h') (sec := L) (ran := R) HPN.out.p1 hjl
            have hN := midN_at (p := p) (n' := n') (h' := h') (M := M) (rs := rs) (k := k) (j := j) hjl
            rw [if_neg (Nat.lt_irrefl _)] at hN
            obtain ⟨v, hv⟩ : ∃ v, Us[j]? = some v := ⟨_, List.getElem?_eq_getElem (show j < Us.length by rw [hG.len, midN_len]; exact hjl)⟩
            obtain ⟨VA, vc, rfl, -⟩ := (hG.row j v _ hv hN).read
            obtain ⟨hc0, hf0⟩ := hG.cell hv
            rw [← HDD.out.1] at hdx hdl hdp
            rw [hdx] at z0
            rw [shL_len, givenN_len] at hc0 hv
            have HJX := Lib.hid hdx
            have HQ := Lib.hid (And.intro hG (And.intro hQ (And.intro hN (And.intro hv hI3))))
            have HMS := Lib.hid (midN_succ (p := p) (n' := n') (h' := h') (M := M) (rs := rs) (k := k) hjl)
            rw [HLX.out.1, HLX.out.2.2.1, ← HDD.out.1] at HMS
            generalize hK : vN DD j = K at *
            have hgl' := hG.lt
            have hno := hG.no _ (List.mem_of_getElem? hv)
            have i3 : (0 : Int) ≤ (j : Int) := by omega
            have i4 : (j : Int) < (h' : Int) := by omega
            have HNO := Lib.hid hno
            clear hG hQ hN hv hI3 hdx hdl hdp hno hK
            go_wp2_with fail
            refine gen_world fun w9 hw9 => ?_
            have hsc : ShCell w9 wr.heap.size ((j : Int) + 1) (.slice B3 K.length c3) := by rw [hw9]; exact ShCell.new _ _ rfl
            have hb9 : Below wr.heap.size wr w9 := by rw [hw9]; exact below_alloc _ _
            have hb9z := hb9.size
            have v0 := hsc.c0
            have v1 := hsc.c1
            have lg9 := hsc.lt
            have l9 : w3.heap.size < w9.heap.size := by omega
            have g0 := (hb9.cell (p := ⟨w3.heap.size, j, none⟩) hgl').trans hc0
            have gf := (hb9.frozen (p := ⟨w3.heap.size, j, none⟩) hgl').trans hf0
            obtain ⟨hG, hQ, hN, hv, hI3⟩ := HQ.out
            have hG9 := hG.below hb9
            obtain ⟨H, e1, e2, e3⟩ := (hG9.row j _ _ hv hN).ex
            have hHl : H.length ≤ 1000 := by rw [e2, shL_len, givenN_len]; omega
            have HE := Lib.hid (And.intro e2 e3)
            have HG9 := Lib.hid hG9
            have HI9 := Lib.hid (hI3.keep (Kept.below hb9))
            have HQ9 := Lib.hid (hQ.below hb9)
            have HVN := Lib.hid (And.intro hv hN)
            clear hw9 hsc hG hQ hN hv hI3 hG9 e2 e3 hc0 hf0 z0 z1
            go_region_law (refine step_app_hv _ rfl (.tmp 80) (.tmp 82) rfl w9 w3.heap.size (.slice VA k vc) H ((j : Int) + 1) (.slice B3 K.length c3) rfl rfl ⟨rfl, rfl, rfl, rfl⟩ rfl e1 (by omega) (by omega) ?_; intro g6 c6 w6 hown6 hg6 hat6 hb6; have n1 := (World.cell?_of_block (a := ⟨w3.heap.size, j, none⟩) (hg6.block w3.heap.size l9 (fun e => HNO.out e.symm))).trans g0; have n2 := (World.frozen?_of_block (a := ⟨w3.heap.size, j, none⟩) (hg6.block w3.heap.size l9 (fun e => HNO.out e.symm))).trans gf)
            all_goals
              have hvb : ∀ b, (Value.slice (some ⟨g6, 0, none⟩) (H.length + 1) c6).ownBlock = some b → (Value.slice VA k vc).ownBlock = some b ∨ w9.heap.size ≤ b := fun b e2 => by
                have : g6 = b := Option.some.inj (show some g6 = some b from e2)
                subst this
                exact hat6
              have hA := GivenR.add (x := j + 1) (L := K) HG9.out HVN.out.1 HE.out.1 HE.out.2 HI9.out hown6 hg6 hvb
              rw [HMS.out] at hA
              have HAA := Lib.hid (And.intro hA (And.intro (parts_add HQ9.out HVN.out.1 hg6 hvb) (((hbr.trans (hb9.mono hsz)).trans hb6).setCell (p := ⟨w3.heap.size, j, none⟩) (Nat.le_refl _) (.slice (some ⟨g6, 0, none⟩) (H.length + 1) c6))))
              clear hA hvb hown6 hg6 hat6 n1 n2 e1
              go_wp2_with fail
              go_roundw
              case rel => exact ⟨j + 1, _, by omega, by go_num, HAA.out.1, HAA.out.2.1, HAA.out.2.2⟩
              case measure => simp [intOf]; omega
          · obtain rfl : j = h' := by omega
            rw [mid_all] at hG
            have HAA := Lib.hid (And.intro hG hbr)
            clear hG hQ
            go_wp2_with fail
            go_roundw
            case rel => exact ⟨k + 1, _, by omega, by go_num, HAA.out.1, HAA.out.2⟩
            case measure => simp [intOf]; omega
    · have hkn : n = k := by omega
      subst hkn
      obtain ⟨w5, hw5⟩ : ∃ w5, w5 = wr := ⟨_, rfl⟩
      subst hw5
      have HG5 := Lib.hid hG
      have HP5 := Lib.hid (HP3.out.below hbr)
      have HQ5 := Lib.hid (HQ3.out.below hbr)
      have hgl5 := hG.lt
      have lq5 := HQ5.out.lt
      have hb5w := hbw
      have HMT := HM.out.take hn
      have hMl : (M.take n).length = n := by rw [List.length_take]; omega
      have hsl : (hsN (M.take n)).length = n := by rw [hsN_len, hMl]
      have hnd := HMT.gd.nd
      have hrg : ∀ x ∈ hsN (M.take n), 1 ≤ x ∧ x ≤ h := HMT.hrg
      have HHL := Lib.hid (fun (W : World) (hb : Below w.heap.size w W) => show Calls Tryd.prog 80 #[.slice A n c] W (fun e w' => ∃ B cb, e = .returned (.slice B n cb) ∧ NatsAt w' B (hsN (M.take n)) ∧ Below W.heap.size W w') from by
        have := holders_any A c (M.take n) W (by rw [← shL_take]; exact (HA.out.below hb).take n) (by omega)
        rw [hMl] at this
        refine this.mono ?_
        rintro e w' ⟨v, rfl, ho, hb2⟩
        obtain ⟨B, cb, rfl, hN, -⟩ := own_sl ho rfl
        rw [hsl]
        exact ⟨B, cb, rfl, hN, hb2⟩)
      have HSS := Lib.hid (And.intro hsl (And.intro hnd hrg))
      clear hG hbw hsz hbr hMl hsl hnd hrg HMT HP3 HQ3 HG4 HB4 hgl lq3 HR
      go_wp2_with fail
      go_loopw [18, 89] (fun o i wr => ∃ j : Nat, j ≤ h' ∧ i = .int .i64 j ∧ RowsV (fun b => w5.heap.size ≤ b) wr w5.heap.size o (shL ((movedN p n' h' M rs n).take j)) ∧ Below w5.heap.size w5 wr) (fun _ i _ => h' - (intOf i).toNat)
      case atStart => exact ⟨0, Nat.zero_le _, rfl, RowsV.nil _ _ _, Below.refl _ _⟩
      case round =>
        obtain ⟨j, hj, rfl, hR, hbr⟩ := hrel
        obtain ⟨OA, oc, hv, hRd⟩ := hR.read
        have hlk : (shL ((movedN p n' h' M rs n).take j)).length = j := by rw [shL_len, List.length_take, movedN_len]; omega
        rw [hlk] at hv
        subst hv
        have hsz := hbr.size
        have hbw := below_trans hb5w hbr
        have HRr := Lib.hid hR
        have HLK := Lib.hid hlk
        have HRd := Lib.hid hRd
        clear hR hlk hRd
        by_cases hjl : j < h'
        · have hG := HG5.out.below hbr
          have hgn : (gvnL p n' h' M rs n).length = h' := by simp [gvnL]
          have hgj : (gvnL p n' h' M rs n)[j]'(by rw [hgn]; exact hjl) = givenN p n' h' M rs n j := by simp [gvnL]
          obtain ⟨B1, c1, hv, hX⟩ := hG.at_ (k := j) (by rw [hgn]; exact hjl)
          rw [hgj] at hv hX
          rw [givenN_len] at hv
          obtain ⟨gx, -⟩ := hG.cell hv
          have hPT := given_partsW (k := j) (rs := rs) (t := n) (n' := n') (h' := h') HPN.out HM.out hn hjl
          have HJN := Lib.hid (fun (W : World) (hb : Below wr.heap.size wr W) (B : Option Addr) (cb : Nat) (hN : NatsAt W B (hsN (M.take n))) => show Calls Tryd.prog 44 #[planV p n h, planV p n' h', .slice B n cb, .slice B1 n c1] W (NewShrE ((j + 1 : Nat) : Int) (joinV p (wsN p (hsN (M.take n)) 0) (fun i => vN (givenN p n' h' M rs n j) i) n) 0 W) from
            join_made p n h n' h' (j + 1) m n B B1 cb c1 (hsN (M.take n)) (givenN p n' h' M rs n j) W HPN.out HPN'.out (HBS.out.below (below_trans hbw hb) HBS.out.1) hN (hX.below hb) HSS.out.2.1 HSS.out.2.2 hPT (by omega) HSS.out.1 (by rw [givenN_len]) (Nat.le_refl _) (by omega))
          have HTK := Lib.hid (movedN_take (p := p) (n' := n') (h' := h') (M := M) (rs := rs) (t := n) hjl)
          generalize joinV p (wsN p (hsN (M.take n)) 0) (fun i => vN (givenN p n' h' M rs n j) i) n = V at *
          have hp5 := HP5.out.below hbr
          have hq5 := HQ5.out.below hbr
          have y0 := hp5.c0
          have y1 := hp5.c1
          have y2 := hp5.c2
          have y3 := hq5.c0
          have y4 := hq5.c1
          have y5 := hq5.c2
          have lzr := hq5.lt
          have lpr : w.heap.size < wr.heap.size := by omega
          have i3 : (0 : Int) ≤ (j : Int) := by omega
          have i4 : (j : Int) < (h' : Int) := by omega
          clear hG hgj hgn hv hX hPT hp5 hq5
          go_wp2_with fail
          go_region_held3 (fun w' => w'.cell? ⟨w.heap.size, 0, none⟩ = some (.int .i64 (p : Int)) ∧ w'.cell? ⟨w.heap.size, 1, none⟩ = some (.int .i64 (n : Int)) ∧ w'.cell? ⟨w.heap.size, 2, none⟩ = some (.int .i64 (h : Int)) ∧ w'.cell? ⟨w.heap.size + 1, 0, none⟩ = some (.int .i64 (p : Int)) ∧ w'.cell? ⟨w.heap.size + 1, 1, none⟩ = some (.int .i64 (n' : Int)) ∧ w'.cell? ⟨w.heap.size + 1, 2, none⟩ = some (.int .i64 (h' : Int))) (first | (go_keep; done) | (exact ⟨keep_set2 (by dsimp only; omega) t0, keep_set2 (by dsimp only; omega) t1, keep_set2 (by dsimp only; omega) t2, keep_set2 (by dsimp only; omega) t3, keep_set2 (by dsimp only; omega) t4, keep_set2 (by dsimp only; omega) t5⟩))
            (first
              | (go_at_call 80; refine (HHL.out _ (below_trans hbw (by (repeat (first | exact bl_refl _ | apply bl_drew | apply bl_alloc))))).mono ?_; rintro e w8 ⟨HB, hcb, rfl, hN8, hb8⟩; (first
                  | (have hb8' : Below wr.heap.size wr w8 := below_undrew1 hb8)
                  | (have hb8A : Below (wr.alloc shO).heap.size (wr.alloc shO) w8 := below_undrew1 hb8; have hb8' : Below wr.heap.size wr w8 := below_trans (below_alloc _ _) hb8A; have HRz := Lib.hid ((ShCell.new (w := wr) 0 (.slice none 0 0) rfl).below hb8A); have fz0 := HRz.out.frozen 0; have fz1 := HRz.out.frozen 1; have rz0 := HRz.out.c0; have rz1 := HRz.out.c1)); have zd := hb8'.size; have s0 := (hb8'.cell (p := ⟨w.heap.size, 0, none⟩) lpr).trans y0; have s1 := (hb8'.cell (p := ⟨w.heap.size, 1, none⟩) lpr).trans y1; have s2 := (hb8'.cell (p := ⟨w.heap.size, 2, none⟩) lpr).trans y2; have s3 := (hb8'.cell (p := ⟨w.heap.size + 1, 0, none⟩) lzr).trans y3; have s4 := (hb8'.cell (p := ⟨w.heap.size + 1, 1, none⟩) lzr).trans y4; have s5 := (hb8'.cell (p := ⟨w.heap.size + 1, 2, none⟩) lzr).trans y5)
              | (go_at_call 44; refine (HJN.out _ (by (repeat (first | exact bl_refl _ | exact hb8' | apply bl_drew | apply bl_alloc))) HB hcb (hN8.below (by (repeat (first | exact bl_refl _ | apply bl_drew | apply bl_alloc))))).mono ?_; rintro e w9 ⟨SAe, sce, rfl, hSe, hOKe, hOffe, hbe⟩; (first
                  | (have HZ := HRz; have hbe' : Below wr.heap.size wr w9 := below_trans hb8' hbe; have HRy := Lib.hid (HRz.out.below hbe); have fy0 := HRy.out.frozen 0; have fy1 := HRy.out.frozen 1; have ry0 := HRy.out.c0; have ry1 := HRy.out.c1)
                  | (have hbeA : Below (w8.alloc shO).heap.size (w8.alloc shO) w9 := hbe; have hbe' : Below wr.heap.size wr w9 := below_trans hb8' (below_trans (below_alloc _ _) hbeA); have HRy := Lib.hid ((ShCell.new (w := w8) 0 (.slice none 0 0) rfl).below hbeA); have fy0 := HRy.out.frozen 0; have fy1 := HRy.out.frozen 1; have ry0 := HRy.out.c0; have ry1 := HRy.out.c1)
                  | (have hbe' : Below wr.heap.size wr w9 := below_trans hb8' hbe)); have t0 := (hbe'.cell (p := ⟨w.heap.size, 0, none⟩) lpr).trans y0; have t1 := (hbe'.cell (p := ⟨w.heap.size, 1, none⟩) lpr).trans y1; have t2 := (hbe'.cell (p := ⟨w.heap.size, 2, none⟩) lpr).trans y2; have t3 := (hbe'.cell (p := ⟨w.heap.size + 1, 0, none⟩) lzr).trans y3; have t4 := (hbe'.cell (p := ⟨w.heap.size + 1, 1, none⟩) lzr).trans y4; have t5 := (hbe'.cell (p := ⟨w.heap.size + 1, 2, none⟩) lzr).trans y5))
          all_goals refine gen_last fun wf hwf => ?_
          · have hN9 : ShNew wr wf w9.heap.size ((j : Int) + 1) SAe sce V := hwf ▸ ShNew.late hbe' hSe hOKe (fun b off e => by have := hOffe b off e; omega)
            obtain ⟨g, hg⟩ : ∃ g, g = w9.heap.size := ⟨_, rfl⟩
            rw [← hg] at hN9 ⊢
            clear hg hwf
            have g0 := hN9.cell.c0
            have g1 := hN9.cell.c1
            have lg := hN9.cell.lt
            have HN9 := Lib.hid hN9
            have hz9 := hN9.below.size
            obtain ⟨W, hW⟩ : ∃ W, W = wf.alloc (.cells #[.int .i64 ((j : Int) + 1), .slice SAe V.length sce] 53) := ⟨_, rfl⟩
            have hbW : Below wr.heap.size wr W := by rw [hW]; exact bl_alloc _ hN9.below
            have hWz : wf.heap.size ≤ W.heap.size := by rw [hW]; exact (below_alloc _ _).size
            obtain ⟨H, e1, e2, e3⟩ := (HRr.out.below hbW).ex
            have HE3 := Lib.hid (And.intro e1 (And.intro e2 e3))
            have hHl : H.length ≤ 100000 := by rw [e2, HLK.out]; omega
            clear e2 e3 hN9 hOffe hSe hOKe
            subst hW
            go_wp2_with (at_builtin; refine app_hv rfl (.tmp 105) (.tmp 107) rfl (base := w5.heap.size) (H := H) (v := .slice OA j oc) (((j : Int) + 1), .slice SAe V.length sce) rfl e1 rfl (heap_alloc_new _ _) rfl (by omega) (by omega) ?_; intro v4 wg hown4 hg4 hb4 hv4)
            have HB4 := Lib.hid (hbr.trans ((hbW.mono hsz).trans hb4))
            have HR4 := Lib.hid (RowsV.put (x := j + 1) HRr.out HN9.out hsz rfl HE3.out hown4 hg4 hv4 HTK.out)
            clear hown4 hg4 hv4 e1
            go_roundw
            case rel => exact ⟨j + 1, by omega, by go_num, HR4.out, HB4.out⟩
            case measure => simp [intOf]; omega
          · have hN9 : ShNew wr wf w8.heap.size ((j : Int) + 1) SAe sce V := hwf ▸ ShNew.early (ShCell.new (w := w8) 0 (.slice none 0 0) rfl) zd (bl_alloc _ hb8') hbe hSe hOKe hOffe
            obtain ⟨g, hg⟩ : ∃ g, g = w8.heap.size := ⟨_, rfl⟩
            rw [← hg] at hN9 ⊢
            clear hg hwf
            have g0 := hN9.cell.c0
            have g1 := hN9.cell.c1
            have lg := hN9.cell.lt
            have HN9 := Lib.hid hN9
            have hz9 := hN9.below.size
            obtain ⟨W, hW⟩ : ∃ W, W = wf.alloc (.cells #[.int .i64 ((j : Int) + 1), .slice SAe V.length sce] 53) := ⟨_, rfl⟩
            have hbW : Below wr.heap.size wr W := by rw [hW]; exact bl_alloc _ hN9.below
            have hWz : wf.heap.size ≤ W.heap.size := by rw [hW]; exact (below_alloc _ _).size
            obtain ⟨H, e1, e2, e3⟩ := (HRr.out.below hbW).ex
            have HE3 := Lib.hid (And.intro e1 (And.intro e2 e3))
            have hHl : H.length ≤ 100000 := by rw [e2, HLK.out]; omega
            clear e2 e3 hN9 hOffe hSe hOKe
            subst hW
            go_wp2_with (at_builtin; refine app_hv rfl (.tmp 105) (.tmp 107) rfl (base := w5.heap.size) (H := H) (v := .slice OA j oc) (((j : Int) + 1), .slice SAe V.length sce) rfl e1 rfl (heap_alloc_new _ _) rfl (by omega) (by omega) ?_; intro v4 wg hown4 hg4 hb4 hv4)
            have HB4 := Lib.hid (hbr.trans ((hbW.mono hsz).trans hb4))
            have HR4 := Lib.hid (RowsV.put (x := j + 1) HRr.out HN9.out hsz rfl HE3.out hown4 hg4 hv4 HTK.out)
            clear hown4 hg4 hv4 e1
            go_roundw
            case rel => exact ⟨j + 1, by omega, by go_num, HR4.out, HB4.out⟩
            case measure => simp [intOf]; omega
          · have hN9 : ShNew wr wf wr.heap.size ((j : Int) + 1) SAe sce V := hwf ▸ ShNew.early HRz.out (Nat.le_refl _) hb8' hbe hSe hOKe hOffe
            obtain ⟨g, hg⟩ : ∃ g, g = wr.heap.size := ⟨_, rfl⟩
            rw [← hg] at hN9 ⊢
            clear hg hwf
            have g0 := hN9.cell.c0
            have g1 := hN9.cell.c1
            have lg := hN9.cell.lt
            have HN9 := Lib.hid hN9
            have hz9 := hN9.below.size
            obtain ⟨W, hW⟩ : ∃ W, W = wf.alloc (.cells #[.int .i64 ((j : Int) + 1), .slice SAe V.length sce] 53) := ⟨_, rfl⟩
            have hbW : Below wr.heap.size wr W := by rw [hW]; exact bl_alloc _ hN9.below
            have hWz : wf.heap.size ≤ W.heap.size := by rw [hW]; exact (below_alloc _ _).size
            obtain ⟨H, e1, e2, e3⟩ := (HRr.out.below hbW).ex
            have HE3 := Lib.hid (And.intro e1 (And.intro e2 e3))
            have hHl : H.length ≤ 100000 := by rw [e2, HLK.out]; omega
            clear e2 e3 hN9 hOffe hSe hOKe
            subst hW
            go_wp2_with (at_builtin; refine app_hv rfl (.tmp 105) (.tmp 107) rfl (base := w5.heap.size) (H := H) (v := .slice OA j oc) (((j : Int) + 1), .slice SAe V.length sce) rfl e1 rfl (heap_alloc_new _ _) rfl (by omega) (by omega) ?_; intro v4 wg hown4 hg4 hb4 hv4)
            have HB4 := Lib.hid (hbr.trans ((hbW.mono hsz).trans hb4))
            have HR4 := Lib.hid (RowsV.put (x := j + 1) HRr.out HN9.out hsz rfl HE3.out hown4 hg4 hv4 HTK.out)
            clear hown4 hg4 hv4 e1
            go_roundw
            case rel => exact ⟨j + 1, by omega, by go_num, HR4.out, HB4.out⟩
            case measure => simp [intOf]; omega
        · obtain rfl : j = h' := by omega
          have hX := HRd.out
          rw [List.take_of_length_le (by rw [movedN_len]; exact Nat.le_refl _)] at hX
          have hz6 := hb5w.size
          have HX := Lib.hid (hX.mono (Q := fun b => w.heap.size ≤ b) (fun b _ hb => by omega))
          clear hX
          go_wp2_with fail
          go_ret2
          exact ⟨OA, oc, rfl, HX.out, hbw⟩
end Go.Proofs.YtlhipgejiacklaaDoor
namespace Go.Proofs.YtlhipgejiacklaaDoor
open Go.RowKit
attribute [local go_sem high] sliced_low

theorem elems_new {D n p : Nat} {w w' : World} {e : Ending} (h : ElemsP D n p w e w') :
    ∃ A c L R', e = .returned (.slice A L.length c) ∧ L.length = n ∧ (∀ x ∈ L, x < p) ∧ SlOK A c L ∧ IntsP (fun b => w.heap.size ≤ b) w' A c (ofN L) ∧ DiceAt w' D R' ∧ w.grownBy w' (some D) := by
  obtain ⟨v, L, R', rfl, hL, hp, hown, hd, hg⟩ := h
  obtain ⟨A, c, rfl, h1, h2, h3⟩ := own_sl hown rfl
  exact ⟨A, c, L, R', rfl, hL, hp, h2, ⟨h1.ints, by rw [len_ofN]; exact h2.iok, fun b off e => .inr (h3 b off e).1⟩, hd, hg⟩
theorem rands_of {p n' m t : Nat} {rs : List (List Nat)} (ht : t ≤ rs.length) (h : ∀ r ∈ rs, r.length = m * (n' - 1) ∧ ∀ x ∈ r, x < p) : Rands p n' m t rs := by
  have key : ∀ i, i < t → rs.getD i [] ∈ rs := fun i hi => by
    rw [List.getD_eq_getElem?_getD, List.getElem?_eq_getElem (show i < rs.length by omega)]
    exact List.getElem_mem _
  exact ⟨fun i hi => (h _ (key i hi)).1, fun i hi => (h _ (key i hi)).2⟩
theorem lst_two {W : World} {g a b : Nat} {X Y : List Nat} (hg : W.heap[g]? = some (.cells #[.slice (some ⟨a, 0, none⟩) X.length X.length, .slice (some ⟨b, 0, none⟩) Y.length Y.length] 22 (0, 0))) (ha : NatBlk W a X) (hb : NatBlk W b Y) (hx : X.length ≤ 100) (hy : Y.length ≤ 100) :
    LstP (fun _ => True) W (some ⟨g, 0, none⟩) 2 [X, Y] := by
  have hlt := blk_lt hg
  have sa := SlOK.own ha (by unfold maxLen; omega)
  have sb := SlOK.own hb (by unfold maxLen; omega)
  refine ⟨fun k hk => ?_, ⟨by simp, by unfold maxLen; omega, (fun e => by cases e), .inr (fun a e => by injection e with e; subst e; rfl)⟩⟩
  have : k = 0 ∨ k = 1 := by simp at hk; omega
  rcases this with rfl | rfl
  · exact ⟨g, 0, some ⟨a, 0, none⟩, X.length, rfl, hlt, trivial, by rw [cell_of_row W g _ _ _ (0, 0) hg]; rfl, sa, ⟨ha.nats.ints, by rw [len_ofN]; exact sa.iok, fun _ _ _ => .inr trivial⟩⟩
  · exact ⟨g, 0, some ⟨b, 0, none⟩, Y.length, rfl, hlt, trivial, by rw [cell_of_row W g _ _ _ (0, 0) hg]; rfl, sb, ⟨hb.nats.ints, by rw [len_ofN]; exact sb.iok, fun _ _ _ => .inr trivial⟩⟩
theorem heap_at (w : World) (o : Obj) (g : Nat) (h : g = w.heap.size) : (w.alloc o).heap[g]? = some o := by subst h; exact heap_alloc_new w o
theorem lit2_at (w : World) (g x y : Nat) (h : g = w.heap.size) : NatBlk (w.alloc (.cells #[.int .i64 (x : Int), .int .i64 (y : Int)] 3)) g [x, y] := by subst h; exact lit2_nats w x y
theorem plan_1123 : PlanN 11 2 3 := PlanN.mk' prime_11 (by omega) (by omega) (by omega) (by omega) (by omega)
theorem plan_1135 : PlanN 11 3 5 := PlanN.mk' prime_11 (by omega) (by omega) (by omega) (by omega) (by omega)
def mbN : List ShN := dealN 11 2 3 [7] [4]
theorem mb_full : Full 11 2 3 [7] mbN := Full.deal plan_1123 (by simp) (by simp)
theorem Part.drop (N : List ShN) (k : Nat) : Part (N.drop k) N := ⟨N.drop k ++ N.take k, List.perm_append_comm.trans (by rw [List.take_append_drop]), (List.take_left).symm⟩
theorem mb_made : Made 11 2 3 [7] (mbN.drop 1) := mb_full.made.part (Part.drop _ _)
theorem mb_len : (mbN.drop 1).length = 2 := by rw [List.length_drop, mb_full.len]
def mvN : List ShN := movedN 11 3 5 (mbN.drop 1) [[1, 2], [3, 4]] 2
theorem mv_rands : Rands 11 3 ([7] : List Nat).length 2 [[1, 2], [3, 4]] := rands_of (by simp) (by
  intro r hr
  simp at hr
  rcases hr with rfl | rfl <;> exact ⟨rfl, by simp⟩)
theorem mv_full : Full 11 3 5 [7] mvN := moved_full plan_1123 plan_1135 mb_made (by simp) (Nat.le_refl _) (by rw [mb_len]; omega) mv_rands

set_option maxRecDepth 100000 in
set_option maxHeartbeats 4000000 in
theorem awake9 (w : World) (hB : Bases w) : Calls Tryd.prog 40 #[] w (RetB (.bool true) w) := by
  have HD := Lib.hid (fun (W : World) (A B : Option Addr) (h1 : NatsAt W A [7]) (h2 : NatsAt W B [4]) (h3 : SlOK B 1 [4]) => show Calls Tryd.prog 31 #[planV 11 2 3, .slice A 1 1, .slice B 1 1] W (DealR mbN 3 W) from
    refDeal_made plan_1123 h1 h2 h3 (by simp) (by simp) (by simp) (by simp) (by simp) (by simp) (by simp))
  have HMV := Lib.hid (fun (W : World) (h0 : Below w.heap.size w W) (A B : Option Addr) (ca cb : Nat) (P P' : Nat → Prop) (h1 : ShP P W A ca (shL (mbN.drop 1))) (h2 : LstP P' W B cb [[1, 2], [3, 4]]) => show Calls Tryd.prog 46 #[planV 11 2 3, planV 11 3 5, .slice A 2 ca, .slice B 2 cb] W (DealR mvN 5 W) from
    move_made (P := P) (P' := P') 11 2 3 3 5 A B ca cb 2 2 [7] (mbN.drop 1) [[1, 2], [3, 4]] W plan_1123 plan_1135 (hB.below h0 hB.1) mb_made (by simp) h1 h2 (by rw [mb_len]; omega) (by rw [mb_len]; omega) mb_len.symm (by simp) (by simp) (by simp) mv_rands)
  have HCO := Lib.hid (fun (W : World) (A : Option Addr) (ca : Nat) (P : Nat → Prop) (h1 : ShP P W A ca (shL mvN)) => show Calls Tryd.prog 27 #[planV 11 3 5, .slice A 5 ca] W (ListErr [7] 0 W) from
    refCombine_made mv_full.made plan_1135 A ca 5 W h1 (by simp) (by rw [mv_full.len]; omega) mv_full.len.symm (by rw [mv_full.len]; omega))
  clear hB
  go_enter Tryd.func40, Tryd.ntmps40
  go_wp2_with fail
  refine gen_calls fun w1 hw1 => ?_
  have hP1 : PlanCell w1 w.heap.size 11 2 3 := by rw [hw1]; exact (((PlanCell.new _ _ _ rfl).alloc _).alloc _).alloc _
  have hQ1 : PlanCell w1 (w.heap.size + 1) 11 3 5 := by rw [hw1]; exact ((PlanCell.new _ _ _ (by simp)).alloc _).alloc _
  have hn3 : NatBlk w1 (w.heap.size + 1 + 1) [7] := by rw [hw1]; exact (lit1_at _ _ _ (by simp)).below (below_alloc _ _)
  have hn4 : NatBlk w1 (w.heap.size + 1 + 1 + 1) [4] := by rw [hw1]; exact lit1_at _ _ _ (by simp)
  have hb1 : Below w.heap.size w w1 := by rw [hw1]; exact bl_alloc _ (bl_alloc _ (bl_alloc _ (below_alloc _ _)))
  clear hw1
  refine (HD.out _ _ _ hn3.nats hn4.nats (SlOK.own hn4 (by unfold maxLen; simp))).mono ?_
  rintro e w2 ⟨LA, lc, rfl, hL, hb2⟩
  have hb2w := below_trans hb1 hb2
  have HP2 := Lib.hid (hP1.below hb2)
  have HQ2 := Lib.hid (hQ1.below hb2)
  have p0 := HP2.out.c0
  have p1 := HP2.out.c1
  have p2 := HP2.out.c2
  have q0 := HQ2.out.c0
  have q1 := HQ2.out.c1
  have q2 := HQ2.out.c2
  obtain ⟨lb, lo, B0, c0', rfl, -⟩ := hL.nat (show 0 < mbN.length by rw [mb_full.len]; omega)
  have hlc := hL.cap
  rw [mb_full.len] at hlc
  have HLD := Lib.hid (hL.drop (show 1 < mbN.length by rw [mb_full.len]; omega)).any
  have hlc2 : (3 : Int) ≤ (lc : Int) := by omega
  have hlc1 : ¬ lc = 1 := by omega
  have lq2 := HQ2.out.lt
  have lp2 := HP2.out.lt
  clear hP1 hQ1 hn3 hn4 hb1 hb2 hL
  go_wp2_with fail
  go_region_held3 (fun w' => w'.cell? ⟨w.heap.size, 0, none⟩ = some (.int .i64 11) ∧ w'.cell? ⟨w.heap.size, 1, none⟩ = some (.int .i64 2) ∧ w'.cell? ⟨w.heap.size, 2, none⟩ = some (.int .i64 3) ∧ w'.cell? ⟨w.heap.size + 1, 0, none⟩ = some (.int .i64 11) ∧ w'.cell? ⟨w.heap.size + 1, 1, none⟩ = some (.int .i64 3) ∧ w'.cell? ⟨w.heap.size + 1, 2, none⟩ = some (.int .i64 5)) (first | (go_keep; done) | exact ⟨(Below.cell (w := w2) (p := ⟨w.heap.size, 0, none⟩) (by (repeat (first | exact bl_refl _ | apply bl_drew | apply bl_alloc))) lp2).trans p0, (Below.cell (w := w2) (p := ⟨w.heap.size, 1, none⟩) (by (repeat (first | exact bl_refl _ | apply bl_drew | apply bl_alloc))) lp2).trans p1, (Below.cell (w := w2) (p := ⟨w.heap.size, 2, none⟩) (by (repeat (first | exact bl_refl _ | apply bl_drew | apply bl_alloc))) lp2).trans p2, (Below.cell (w := w2) (p := ⟨w.heap.size + 1, 0, none⟩) (by (repeat (first | exact bl_refl _ | apply bl_drew | apply bl_alloc))) lq2).trans q0, (Below.cell (w := w2) (p := ⟨w.heap.size + 1, 1, none⟩) (by (repeat (first | exact bl_refl _ | apply bl_drew | apply bl_alloc))) lq2).trans q1, (Below.cell (w := w2) (p := ⟨w.heap.size + 1, 2, none⟩) (by (repeat (first | exact bl_refl _ | apply bl_drew | apply bl_alloc))) lq2).trans q2⟩)
    (first
      | (go_at_call 46; (try rw [if_neg hlc1]); have hbW : Below w2.heap.size w2 _ := (by (repeat (first | exact bl_refl _ | apply bl_drew | apply bl_alloc)) : Below w2.heap.size w2 (((w2.alloc (.cells #[.int .i64 1, .int .i64 2] 3)).alloc (.cells #[.int .i64 3, .int .i64 4] 3)).alloc (.cells #[.slice (some ⟨w2.heap.size, 0, none⟩) 2 2, .slice (some ⟨w2.heap.size + 1, 0, none⟩) 2 2] 22)).drew); refine (HMV.out _ (below_trans hb2w hbW) _ _ _ _ _ _ (HLD.out.below hbW) (((lst_two (W := ((w2.alloc (.cells #[.int .i64 1, .int .i64 2] 3)).alloc (.cells #[.int .i64 3, .int .i64 4] 3)).alloc (.cells #[.slice (some ⟨w2.heap.size, 0, none⟩) 2 2, .slice (some ⟨w2.heap.size + 1, 0, none⟩) 2 2] 22)) (a := w2.heap.size) (b := w2.heap.size + 1) (X := [1, 2]) (Y := [3, 4]) (g := w2.heap.size + 1 + 1) (heap_at _ _ _ (by simp)) (((lit2_nats w2 1 2).below (below_alloc _ _)).below (below_alloc _ _)) ((lit2_at _ _ _ _ (by simp)).below (below_alloc _ _)) (by simp) (by simp)).below (below_drewT _)))).mono ?_; rintro e w3 ⟨MA, mc, rfl, hM, hb3⟩; have hb3' : Below w2.heap.size w2 w3 := below_trans hbW hb3; have t0 := (hb3'.cell (p := ⟨w.heap.size, 0, none⟩) lp2).trans p0; have t1 := (hb3'.cell (p := ⟨w.heap.size, 1, none⟩) lp2).trans p1; have t2 := (hb3'.cell (p := ⟨w.heap.size, 2, none⟩) lp2).trans p2; have t3 := (hb3'.cell (p := ⟨w.heap.size + 1, 0, none⟩) lq2).trans q0; have t4 := (hb3'.cell (p := ⟨w.heap.size + 1, 1, none⟩) lq2).trans q1; have t5 := (hb3'.cell (p := ⟨w.heap.size + 1, 2, none⟩) lq2).trans q2)
      | (go_at_call 46; (try rw [if_neg hlc1]); have hbW : Below w2.heap.size w2 _ := (by (repeat (first | exact bl_refl _ | apply bl_drew | apply bl_alloc)) : Below w2.heap.size w2 (((w2.alloc (.cells #[.int .i64 3, .int .i64 4] 3)).alloc (.cells #[.int .i64 1, .int .i64 2] 3)).alloc (.cells #[.slice (some ⟨w2.heap.size + 1, 0, none⟩) 2 2, .slice (some ⟨w2.heap.size, 0, none⟩) 2 2] 22)).drew); refine (HMV.out _ (below_trans hb2w hbW) _ _ _ _ _ _ (HLD.out.below hbW) (((lst_two (W := ((w2.alloc (.cells #[.int .i64 3, .int .i64 4] 3)).alloc (.cells #[.int .i64 1, .int .i64 2] 3)).alloc (.cells #[.slice (some ⟨w2.heap.size + 1, 0, none⟩) 2 2, .slice (some ⟨w2.heap.size, 0, none⟩) 2 2] 22)) (a := w2.heap.size + 1) (b := w2.heap.size) (X := [1, 2]) (Y := [3, 4]) (g := w2.heap.size + 1 + 1) (heap_at _ _ _ (by simp)) ((lit2_at _ _ _ _ (by simp)).below (below_alloc _ _)) (((lit2_nats w2 3 4).below (below_alloc _ _)).below (below_alloc _ _)) (by simp) (by simp)).below (below_drewT _)))).mono ?_; rintro e w3 ⟨MA, mc, rfl, hM, hb3⟩; have hb3' : Below w2.heap.size w2 w3 := below_trans hbW hb3; have t0 := (hb3'.cell (p := ⟨w.heap.size, 0, none⟩) lp2).trans p0; have t1 := (hb3'.cell (p := ⟨w.heap.size, 1, none⟩) lp2).trans p1; have t2 := (hb3'.cell (p := ⟨w.heap.size, 2, none⟩) lp2).trans p2; have t3 := (hb3'.cell (p := ⟨w.heap.size + 1, 0, none⟩) lq2).trans q0; have t4 := (hb3'.cell (p := ⟨w.heap.size + 1, 1, none⟩) lq2).trans q1; have t5 := (hb3'.cell (p := ⟨w.heap.size + 1, 2, none⟩) lq2).trans q2))
  all_goals
    have hb3w := below_trans hb2w hb3'
    have HM3 := Lib.hid hM
    have HP3 := Lib.hid (HP2.out.below hb3')
    have HQ3 := Lib.hid (HQ2.out.below hb3')
    clear hM
    go_wp2_with fail
    refine (HCO.out _ _ _ _ HM3.out).mono ?_
    rintro e w4 ⟨XA, xc, rfl, hX, -, -, hb4⟩
    obtain ⟨xb, xo, rfl, hxl, x0⟩ := hX 0 (by simp)
    simp [nthN] at x0
    have hb4w := below_trans hb3w hb4
    clear hX
    go_wp2_with fail
    go_ret
    exact RetB.bool rfl hb4w
end Go.Proofs.YtlhipgejiacklaaDoor
namespace Go.Proofs.YtlhipgejiacklaaDoor
open Go.RowKit

def setP (w : World) (x : Nat) (p n h : Int) : World := ((w.setCell ⟨x, 0, none⟩ (.int .i64 p)).setCell ⟨x, 1, none⟩ (.int .i64 n)).setCell ⟨x, 2, none⟩ (.int .i64 h)
theorem setP_size (w : World) (x : Nat) (p n h : Int) : (setP w x p n h).heap.size = w.heap.size := by simp [setP, World.setCell]
theorem setP_block (w : World) (x : Nat) (p n h : Int) (k : Nat) (hk : k ≠ x) : (setP w x p n h).heap[k]? = w.heap[k]? := by
  unfold setP
  exact ((Below.heap_setCell _ _ _ k (by dsimp only; exact hk)).trans (Below.heap_setCell _ _ _ k (by dsimp only; exact hk))).trans (Below.heap_setCell _ _ _ k (by dsimp only; exact hk))
theorem setP_below {w w' : World} {B x : Nat} (hb : Below B w w') (hx : B ≤ x) (p n h : Int) : Below B w (setP w' x p n h) :=
  ⟨hb.os, hb.tape, hb.output, by rw [setP_size]; exact hb.size, fun k hk => (setP_block w' x p n h k (by omega)).trans (hb.block k hk)⟩
theorem setP_kept (w : World) (x D : Nat) (p n h : Int) : Kept (fun b => b ≠ D ∧ b ≠ x) w (setP w x p n h) := ⟨Nat.le_of_eq (setP_size w x p n h).symm, fun b hb _ => setP_block w x p n h b hb.2⟩
theorem PlanCell.setP {w : World} {x : Nat} {p n h : Int} (H : PlanCell w x p n h) (p' n' h' : Int) : PlanCell (setP w x p' n' h') x p' n' h' := H.fill p' n' h'
theorem Kept.mv2 {D : Nat} {X : Nat → Prop} {w w' : World} (hg : w.grownBy w' (some D)) : Kept (fun b => b ≠ D ∧ X b) w w' := ⟨hg.size, fun b hb hlt => hg.block b hlt (fun e => by injection e with e; exact hb.1 e)⟩
theorem Kept.lo {D B : Nat} {X : Nat → Prop} {w w' : World} (hb : Below B w w') : Kept (fun b => b ≠ D ∧ X b ∧ b < B) w w' := ⟨hb.size, fun b h _ => hb.block b h.2.2⟩
theorem Held.intsP {w : World} {D : Nat} {A : Option Addr} {c : Nat} {L : List Nat} (h : Held w D A c L) : IntsP (fun b => b ≠ D ∧ b < w.heap.size) w A c (ofN L) := ⟨h.nats.ints, by rw [len_ofN]; exact h.ok.iok, fun b off e => by
  rcases Nat.eq_zero_or_pos L.length with h0 | h0
  · exact .inl (by rw [len_ofN]; exact h0)
  · obtain ⟨b1, o1, e1, hlt, -⟩ := h.nats 0 h0
    rw [e1] at e
    injection e with e; injection e with e2 e3
    subst e2
    exact .inr ⟨h.off _ _ e1, hlt⟩⟩
end Go.Proofs.YtlhipgejiacklaaDoor
namespace Go.Proofs.YtlhipgejiacklaaDoor
open Go.RowKit

/-- One list for each new holder: rows of the own, none in another. -/
structure GivenX (w : World) (base g : Nat) (X : Nat → Prop) (Vs : List Value) (Ns : List (List ShN)) : Prop where
  xg : X g
  xo : ∀ u ∈ Vs, ∀ b, u.ownBlock = some b → X b
  blk : w.heap[g]? = some (.cells Vs.toArray 31 (0, 0))
  low : base ≤ g
  len : Vs.length = Ns.length
  row : ∀ (k : Nat) (v : Value) (N : List ShN), Vs[k]? = some v → Ns[k]? = some N → RowsV (fun b => (base ≤ b ∧ X b) ∧ b ≠ g ∧ ∀ u ∈ Vs, u.ownBlock ≠ some b) w base v (shL N)
  no : ∀ u ∈ Vs, u.ownBlock ≠ some g
  ne : ∀ (i j : Nat) (u v : Value), Vs[i]? = some u → Vs[j]? = some v → i ≠ j → ∀ b, u.ownBlock = some b → v.ownBlock ≠ some b
theorem GivenX.lt {w : World} {base g : Nat} {X : Nat → Prop} {Vs : List Value} {Ns : List (List ShN)} (h : GivenX w base g X Vs Ns) : g < w.heap.size := blk_lt h.blk
theorem GivenX.below {w w' : World} {base g : Nat} {X : Nat → Prop} {Vs : List Value} {Ns : List (List ShN)} (h : GivenX w base g X Vs Ns) (hb : Below w.heap.size w w') : GivenX w' base g X Vs Ns :=
  ⟨h.xg, h.xo, (hb.block g h.lt).trans h.blk, h.low, h.len, fun k v N h1 h2 => (h.row k v N h1 h2).below hb, h.no, h.ne⟩
theorem GivenX.new {w : World} {base g n : Nat} {X : Nat → Prop} (hx : X g) (hg : w.heap[g]? = some (.cells (List.replicate n (Value.slice none 0 0)).toArray 31 (0, 0))) (hb : base ≤ g) : GivenX w base g X (List.replicate n (.slice none 0 0)) (List.replicate n []) := by
  refine ⟨hx, (fun u hu b hb => by rw [List.eq_of_mem_replicate hu] at hb; cases hb), hg, hb, by simp, fun k v N h1 h2 => ?_, fun u hu => ?_, fun i j u v h1 h2 _ b hb => ?_⟩
  · have e1 := List.eq_of_mem_replicate (List.mem_of_getElem? h1)
    have e2 := List.eq_of_mem_replicate (List.mem_of_getElem? h2)
    subst e1 e2
    exact RowsV.nil _ _ _
  · rw [List.eq_of_mem_replicate hu]; simp [Value.ownBlock]
  · rw [List.eq_of_mem_replicate (List.mem_of_getElem? h1)] at hb; cases hb
theorem GivenX.cell {w : World} {base g k : Nat} {X : Nat → Prop} {Vs : List Value} {Ns : List (List ShN)} {v : Value} (h : GivenX w base g X Vs Ns) (hk : Vs[k]? = some v) : w.cell? ⟨g, k, none⟩ = some v ∧ w.frozen? ⟨g, k, none⟩ = false := by
  refine ⟨?_, frozen_of_row w g k _ _ h.blk⟩
  rw [cell_of_row w g k _ _ (0, 0) h.blk]
  simpa using hk
theorem GivenX.at_ {w : World} {base g k : Nat} {X : Nat → Prop} {Vs : List Value} {Ns : List (List ShN)} (h : GivenX w base g X Vs Ns) (hk : k < Ns.length) : ∃ A c, Vs[k]? = some (.slice A Ns[k].length c) ∧ ShP (fun b => base ≤ b) w A c (shL Ns[k]) := by
  have hk' : k < Vs.length := by rw [h.len]; exact hk
  have hR := h.row k Vs[k] Ns[k] (List.getElem?_eq_getElem hk') (List.getElem?_eq_getElem hk)
  obtain ⟨A, c, e, hS⟩ := hR.read
  rw [shL_len] at e
  exact ⟨A, c, by rw [List.getElem?_eq_getElem hk', e], hS.mono (fun b _ hb => hb.elim id (fun hb => hb.1.1))⟩
theorem GivenX.add {W w' : World} {base g k : Nat} {X : Nat → Prop} {Vs : List Value} {Ns : List (List ShN)} {v v' : Value} {N : List ShN} {H : List HV} {x : Nat} {L : List Nat} {B : Option Addr} {c : Nat} (h : GivenX W base g X Vs Ns) (hk : Vs[k]? = some v)
    (e2 : H.length = (shL N).length) (e3 : ∀ j, j < (shL N).length → (hvAt H j).1 = hS (shL N) j ∧ ∃ B c, (hvAt H j).2 = .slice B (vS (shL N) j).length c ∧ IntsP (fun b => ((base ≤ b ∧ X b) ∧ b ≠ g ∧ ∀ u ∈ Vs, u.ownBlock ≠ some b) ∧ v.ownBlock ≠ some b) W B c (vS (shL N) j))
    (hI : IntsP (fun b => (base ≤ b ∧ X b) ∧ b ≠ g ∧ ∀ u ∈ Vs, u.ownBlock ≠ some b) W B c (ofN L)) (hown : HvOwn w' base v' (H ++ [((x : Int), .slice B L.length c)])) (hg : W.grownBy w' v.ownBlock) (hv : ∀ b, v'.ownBlock = some b → v.ownBlock = some b ∨ W.heap.size ≤ b) (hX : ∀ b, W.heap.size ≤ b → X b) :
    GivenX (w'.setCell ⟨g, k, none⟩ v') base g X (Vs.set k v') (Ns.set k (N ++ [(x, L)])) := by
  have hkl : k < Vs.length := by
    rcases Nat.lt_or_ge k Vs.length with h1 | h1
    · exact h1
    · rw [List.getElem?_eq_none h1] at hk; cases hk
  have hmem : v ∈ Vs := List.mem_of_getElem? hk
  have hgW := h.lt
  have hvg : v.ownBlock ≠ some g := h.no v hmem
  have hv'g : v'.ownBlock ≠ some g := fun e => by
    rcases hv g e with e | e
    · exact hvg e
    · omega
  have hblk : w'.heap[g]? = W.heap[g]? := hg.block g hgW (fun e => hvg e.symm)
  -- what is in none of the new ones
  have hnew : ∀ b, b < W.heap.size → (∀ u ∈ Vs, u.ownBlock ≠ some b) → ∀ u ∈ Vs.set k v', u.ownBlock ≠ some b := fun b hlt hb u hu => by
    rcases List.mem_or_eq_of_mem_set hu with h1 | h1
    · exact hb u h1
    · subst h1
      intro e
      rcases hv b e with e | e
      · exact hb v hmem e
      · omega
  refine ⟨h.xg, (fun u hu b hb => by
    rcases List.mem_or_eq_of_mem_set hu with h1 | h1
    · exact h.xo u h1 b hb
    · subst h1
      rcases hv b hb with e | e
      · exact h.xo v hmem b e
      · exact hX b e), ?_, h.low, by simp [h.len], fun j u M h1 h2 => ?_, fun u hu => ?_, fun i j u t h1 h2 hij b hb => ?_⟩
  · have : (w'.setCell ⟨g, k, none⟩ v').heap[g]? = some (.cells (Vs.toArray.setIfInBounds k v') 31 (0, 0)) := by
      have e := hblk.trans h.blk
      simp [World.setCell, Array.getElem?_modify, e]
    rw [this]; simp
  · by_cases hjk : k = j
    · subst hjk
      have hkN : k < Ns.length := by rw [← h.len]; exact hkl
      rw [List.getElem?_set_self hkl] at h1
      rw [List.getElem?_set_self hkN] at h2
      injection h1 with h1; injection h2 with h2
      subst h1 h2
      have hm := RowsV.more2 (Q := fun b => (base ≤ b ∧ X b) ∧ b ≠ g ∧ ∀ u ∈ Vs, u.ownBlock ≠ some b) e2 e3 (x : Int) (ofN L) (hI.mono (fun b _ hb => ⟨hb, hb.2.2 v hmem⟩)) (by rw [len_ofN]; exact hown) hg hv
      rw [show shL N ++ [((x : Int), ofN L)] = shL (N ++ [(x, L)]) from by simp [shL, shI]] at hm
      have hm2 := hm.monoQ (Q' := fun b => (base ≤ b ∧ X b) ∧ b ≠ g ∧ ∀ u ∈ Vs.set k v', u.ownBlock ≠ some b) (fun b _ hb hbv => ⟨hb.1, hb.2.1, fun u hu => by
        rcases List.mem_or_eq_of_mem_set hu with h1 | h1
        · exact hb.2.2 u h1
        · subst h1; exact hbv⟩)
      exact hm2.kept (grown_cellSet w' g k v') (by
        rcases hvb : v'.ownBlock with _ | b
        · exact .inl rfl
        · exact .inr (by rw [← hvb]; exact hv'g)) (fun b hb e => hb.2.1 (Option.some.inj e).symm)
    · rw [List.getElem?_set_ne hjk] at h1 h2
      have hR := h.row j u M h1 h2
      have hR1 := hR.monoQ (Q' := fun b => ((base ≤ b ∧ X b) ∧ b ≠ g ∧ ∀ u ∈ Vs.set k v', u.ownBlock ≠ some b) ∧ v.ownBlock ≠ some b) (fun b hlt hb _ => ⟨⟨hb.1, hb.2.1, hnew b hlt hb.2.2⟩, hb.2.2 v hmem⟩)
      have hR2 := hR1.kept hg (by
        rcases hub : u.ownBlock with _ | b
        · exact .inl rfl
        · exact .inr (fun e => h.ne j k u v h1 hk (fun e => hjk e.symm) b hub e.symm)) (fun b hb e => hb.2 e)
      have hR3 := hR2.monoQ (Q' := fun b => (base ≤ b ∧ X b) ∧ b ≠ g ∧ ∀ u ∈ Vs.set k v', u.ownBlock ≠ some b) (fun b _ hb _ => hb.1)
      exact hR3.kept (grown_cellSet w' g k v') (by
        rcases hub : u.ownBlock with _ | b
        · exact .inl rfl
        · exact .inr (by rw [← hub]; exact h.no u (List.mem_of_getElem? h1))) (fun b hb e => hb.2.1 (Option.some.inj e).symm)
  · rcases List.mem_or_eq_of_mem_set hu with h1 | h1
    · exact h.no u h1
    · subst h1; exact hv'g
  · -- two different ones
    have hlt : ∀ (i : Nat) (u : Value), Vs[i]? = some u → ∀ b, u.ownBlock = some b → b < W.heap.size := fun i u hu b hb => by
      have hi : i < Vs.length := by
        rcases Nat.lt_or_ge i Vs.length with h1 | h1
        · exact h1
        · rw [List.getElem?_eq_none h1] at hu; cases hu
      exact ((h.row i u _ hu (List.getElem?_eq_getElem (show i < Ns.length by rw [← h.len]; exact hi))).lt b hb).2
    by_cases hi : k = i
    · subst hi
      rw [List.getElem?_set_self hkl] at h1
      injection h1 with h1
      subst h1
      rw [List.getElem?_set_ne hij] at h2
      rcases hv b hb with e | e
      · exact h.ne k j v t hk h2 hij b e
      · intro e3
        have := hlt j t h2 b e3; omega
    · rw [List.getElem?_set_ne hi] at h1
      by_cases hj : k = j
      · subst hj
        rw [List.getElem?_set_self hkl] at h2
        injection h2 with h2
        subst h2
        intro e3
        rcases hv b e3 with e | e
        · exact h.ne i k u v h1 hk hij b hb e
        · have := hlt i u h1 b hb; omega
      · rw [List.getElem?_set_ne hj] at h2
        exact h.ne i j u t h1 h2 hij b hb
theorem GivenX.mono {w : World} {base g : Nat} {X Y : Nat → Prop} {Vs : List Value} {Ns : List (List ShN)} (h : GivenX w base g X Vs Ns) (hY : ∀ b, b < w.heap.size → X b → Y b) : GivenX w base g Y Vs Ns :=
  ⟨hY g h.lt h.xg, fun u hu b hb => by
    obtain ⟨i, hi, rfl⟩ := List.getElem_of_mem hu
    exact hY b ((h.row i _ _ (List.getElem?_eq_getElem hi) (List.getElem?_eq_getElem (show i < Ns.length by rw [← h.len]; exact hi))).lt b hb).2 (h.xo _ hu b hb), h.blk, h.low, h.len, fun k v N h1 h2 => (h.row k v N h1 h2).monoQ (fun b hlt hb _ => ⟨⟨hb.1.1, hY b hlt hb.1.2⟩, hb.2⟩), h.no, h.ne⟩
/-- What is written lies in none of the blocks that count. -/
theorem GivenX.kept {w w' : World} {base g : Nat} {X : Nat → Prop} {Vs : List Value} {Ns : List (List ShN)} {row : Option Nat} (h : GivenX w base g X Vs Ns) (hg : w.grownBy w' row) (hX : ∀ b, base ≤ b → X b → row ≠ some b) : GivenX w' base g X Vs Ns :=
  ⟨h.xg, h.xo, (hg.block g h.lt (fun e => hX g h.low h.xg e.symm)).trans h.blk, h.low, h.len, fun k v N h1 h2 => (h.row k v N h1 h2).kept hg (by
    rcases hvb : v.ownBlock with _ | b
    · exact .inl rfl
    · exact .inr (fun e => hX b ((h.row k v N h1 h2).lt b hvb).1 (h.xo v (List.mem_of_getElem? h1) b hvb) e.symm)) (fun b hb e => hX b hb.1.1 hb.1.2 e), h.no, h.ne⟩
end Go.Proofs.YtlhipgejiacklaaDoor
namespace Go.Proofs.YtlhipgejiacklaaDoor
open Go.RowKit

set_option maxRecDepth 100000 in
set_option maxHeartbeats 4000000 in
theorem join_few {P : Nat → Prop} (p n h n' h' y m t : Nat) (A B : Option Addr) (ca cb : Nat) (hs : List Nat) (Q : List ShN) (w : World) (PN : PlanN p n h) (PN' : PlanN p n' h') (hB : Bases w) (hA : NatsAt w A hs) (hQ : ShP P w B cb (shL Q))
    (hnd : hs.Nodup) (hr : ∀ x ∈ hs, 1 ≤ x ∧ x ≤ h) (hp : Parts p h' y m Q) (hm : m ≤ 2048) (ht : hs.length = t) (hq : Q.length = t) (hn : t < n) (ht7 : t ≤ 16) :
    Calls Tryd.prog 44 #[planV p n h, planV p n' h', .slice A t ca, .slice B t cb] w (NewShrE 0 [] 5 w) := by
  have hn1 := PN.n1
  have HPL := Lib.hid (fun (W : World) (hb : Below w.heap.size w W) => plans_made p n h n' h' W PN PN' (hB.below hb hB.1))
  have HGV := Lib.hid (fun (W : World) (hb : Below w.heap.size w W) => show Calls Tryd.prog 74 #[planV p n h, .slice A t ca] W (RetB (.bool true) W) from by
    have := givers_any p n h A ca (ofN hs) W (hA.below hb).ints (by have := PN.h7; omega) (by rw [len_ofN]; omega)
    rw [gv_nat hnd hr, len_ofN, ht] at this; exact this)
  have HFT := Lib.hid (fun (W : World) (hb : Below w.heap.size w W) => show Calls Tryd.prog 75 #[planV p n' h', .slice B t cb] W (RetB (.bool true) W) from by
    have := fit_any p n' h' B cb (shL Q) W (hQ.below hb) (short_shL fun k hk => by have := hp.len k hk; omega) (by rw [shL_len]; omega)
    rw [hp.fits, shL_len, hq] at this; exact this)
  have HQ := Lib.hid hQ
  have HPT := Lib.hid hp
  have HQL := Lib.hid hq
  have hp1 := PN.p1
  have hp2 : p ≤ 2147483648 := by have := PN.p2; omega
  clear hA hQ hB hnd hr hp ht hq PN PN'
  go_enter Tryd.func44, Tryd.ntmps44
  go_wp2_with fail
  refine gen_calls fun w1 hw1 => ?_
  have hP : PlanCell w1 w.heap.size p n h := by rw [hw1]; exact ((PlanCell.new _ _ _ rfl).alloc _).alloc _
  have hQ' : PlanCell w1 (w.heap.size + 1) p n' h' := by rw [hw1]; exact (PlanCell.new _ _ _ (by simp)).alloc _
  have hR : ShCell w1 (w.heap.size + 1 + 1) 0 (.slice none 0 0) := by rw [hw1]; exact ShCell.new _ _ (by simp)
  have hb1 : Below w.heap.size w w1 := by rw [hw1]; exact bl_alloc _ (bl_alloc _ (below_alloc _ _))
  clear hw1
  refine ret_below (HPL.out _ hb1) fun w2 hb2 => ?_
  have hb2w := below_trans hb1 hb2
  have hP2 := hP.below hb2
  have hQ2 := hQ'.below hb2
  have hR2 := hR.below hb2
  have p0 := hP2.c0
  have p1 := hP2.c1
  have p2 := hP2.c2
  clear hP hQ' hR hb1 hb2
  go_wp2_with fail
  refine ret_below (HGV.out _ hb2w) fun w3 hb3 => ?_
  have hb3w := below_trans hb2w hb3
  have hP3 := hP2.below hb3
  have hQ3 := hQ2.below hb3
  have hR3 := hR2.below hb3
  have q0 := hQ3.c0
  have q1 := hQ3.c1
  have q2 := hQ3.c2
  clear p0 p1 p2 hP2 hQ2 hR2 hb2w hb3
  go_wp2_with fail
  refine ret_below (HFT.out _ hb3w) fun w4 hb4 => ?_
  have hb4w := below_trans hb3w hb4
  have hP4 := hP3.below hb4
  have hR4 := hR3.below hb4
  have p0 := hP4.c0
  have p1 := hP4.c1
  have p2 := hP4.c2
  clear q0 q1 q2 hP3 hQ3 hR3 hb3w hb4
  have s0 := hR4.c0
  have s1 := hR4.c1
  have f0 := hR4.frozen 0
  have f1 := hR4.frozen 1
  have hz4 := hb4w.size
  have hR4 := Lib.hid hR4
  go_wp2_with fail
  refine bodyPost_ret (results_shr2 rfl _ _ (w.heap.size + 1 + 1) rfl (shcell_fill hR4.out 0 _)) rfl ?_
  exact ⟨none, 0, rfl, NatsAt.nil _ _, SlOK.none0, (fun b off e => by cases e), below_set2 hb4w (by omega) _ _⟩
theorem given_app {p n' h' : Nat} {M : List ShN} {rs : List (List Nat)} {x : List Nat} {t k : Nat} (ht : t ≤ rs.length) : givenN p n' h' M (rs ++ [x]) t k = givenN p n' h' M rs t k := by
  unfold givenN
  refine List.map_congr_left fun i hi => ?_
  have hi := List.mem_range.1 hi
  rw [show (rs ++ [x]).getD i [] = rs.getD i [] from by simp [List.getD_eq_getElem?_getD, List.getElem?_append_left (show i < rs.length by omega)]]
theorem gvn_app {p n' h' : Nat} {M : List ShN} {rs : List (List Nat)} {x : List Nat} {t : Nat} (ht : t ≤ rs.length) : gvnL p n' h' M (rs ++ [x]) t = gvnL p n' h' M rs t := by
  unfold gvnL
  exact List.map_congr_left fun q _ => given_app ht
theorem getD_last {rs : List (List Nat)} {x : List Nat} {t : Nat} (ht : rs.length = t) : (rs ++ [x]).getD t [] = x := by subst ht; simp [List.getD_eq_getElem?_getD]
theorem given_take {p n' h' : Nat} {M : List ShN} {rs : List (List Nat)} {t s k : Nat} (h : s ≤ t) : (givenN p n' h' M rs t k).take s = givenN p n' h' M rs s k := by
  unfold givenN
  rw [← List.map_take, List.take_range, Nat.min_eq_left h]
end Go.Proofs.YtlhipgejiacklaaDoor
namespace Go.Proofs.YtlhipgejiacklaaDoor
open Go.RowKit

theorem refElems_any (p : Int) (A : Option Addr) (L : List Int) (c : Nat) (w : World) (hv : primeV p = true) (hI : IntsAt w A L) (hl : L.length ≤ 1099511627776) :
    Calls Tryd.prog 68 #[.int .i64 p, .slice A L.length c] w (Ret (.bool (inside p L)) w) := by
  have := elems_ref A L c p w hI hl
  unfold elemsI at this
  rw [hv, Bool.and_true] at this
  exact this
theorem IntsAt.belowW {w w' : World} {A : Option Addr} {L : List Int} (h : IntsAt w A L) (hb : Below w.heap.size w w') : IntsAt w' A L := h.below hb
set_option maxRecDepth 100000 in
set_option maxHeartbeats 1000000 in
theorem refDeal_inv (p n h : Int) (A B : Option Addr) (ca cb : Nat) (sec ran : List Int) (w : World) (hv : primeV p = validI p) (hA : IntsAt w A sec) (hR : IntsAt w B ran) (hl1 : sec.length ≤ 1048576) (hl2 : ran.length ≤ 1048576) (hpl : plB p n h = false) :
    Calls Tryd.prog 31 #[planV p n h, .slice A sec.length ca, .slice B ran.length cb] w (ShErr [] 1 w) := by
  have HVA := Lib.hid (fun (W : World) => show Calls Tryd.prog 63 #[planV p n h] W (RetB (.bool false) W) from by have := refValid_plan p n h W hv; rw [hpl] at this; exact this)
  clear hA hR hv hpl
  go_enter Tryd.func31, Tryd.ntmps31
  go_wp2_with fail
  refine ret_below (HVA.out _) ?_
  intro w1 hb1
  have hbw1 := below_trans (below_alloc _ _) hb1
  have HP := Lib.hid ((PlanCell.new (w := w) p n h rfl).below hb1)
  have p0 := HP.out.c0
  have p1 := HP.out.c1
  have p2 := HP.out.c2
  go_wp2_with fail
  go_ret2
  exact ShErr.nil _ hbw1
set_option maxRecDepth 100000 in
set_option maxHeartbeats 1000000 in
theorem refDeal_big (p n h : Int) (A B : Option Addr) (ca cb : Nat) (sec ran : List Int) (w : World) (hv : primeV p = validI p) (hA : IntsAt w A sec) (hR : IntsAt w B ran) (hl1 : sec.length ≤ 1048576) (hl2 : ran.length ≤ 1048576) (hpl : plB p n h = true) (hbig : 2048 < sec.length) :
    Calls Tryd.prog 31 #[planV p n h, .slice A sec.length ca, .slice B ran.length cb] w (ShErr [] 3 w) := by
  have HVA := Lib.hid (fun (W : World) => show Calls Tryd.prog 63 #[planV p n h] W (RetB (.bool true) W) from by have := refValid_plan p n h W hv; rw [hpl] at this; exact this)
  have t1 : decide (2048 < (sec.length : Int)) = true := decide_eq_true (by omega)
  clear hA hR hv hpl
  go_enter Tryd.func31, Tryd.ntmps31
  go_wp2_with fail
  refine ret_below (HVA.out _) ?_
  intro w1 hb1
  have hbw1 := below_trans (below_alloc _ _) hb1
  have HP := Lib.hid ((PlanCell.new (w := w) p n h rfl).below hb1)
  have p0 := HP.out.c0
  have p1 := HP.out.c1
  have p2 := HP.out.c2
  go_wp2_with fail
  go_ret2
  exact ShErr.nil _ hbw1
set_option maxRecDepth 100000 in
set_option maxHeartbeats 1000000 in
theorem refDeal_sec (p n h : Int) (A B : Option Addr) (ca cb : Nat) (sec ran : List Int) (w : World) (hv : primeV p = validI p) (hA : IntsAt w A sec) (hR : IntsAt w B ran) (hl1 : sec.length ≤ 1048576) (hl2 : ran.length ≤ 1048576) (hpl : plB p n h = true) (hbig : ¬ 2048 < sec.length) (hi : inside p sec = false) :
    Calls Tryd.prog 31 #[planV p n h, .slice A sec.length ca, .slice B ran.length cb] w (ShErr [] 2 w) := by
  have HVA := Lib.hid (fun (W : World) => show Calls Tryd.prog 63 #[planV p n h] W (RetB (.bool true) W) from by have := refValid_plan p n h W hv; rw [hpl] at this; exact this)
  have hpv : primeV p = true := plB_pv hpl hv
  have t1 : decide (2048 < (sec.length : Int)) = false := decide_eq_false (by omega)
  have HES := Lib.hid (fun (W : World) (hb : Below w.heap.size w W) => show Calls Tryd.prog 68 #[.int .i64 p, .slice A sec.length ca] W (Ret (.bool false) W) from by have := refElems_any p A sec ca W hpv (hA.below hb) (by omega); rw [hi] at this; exact this)
  clear hA hR hv hpl hpv hi
  go_enter Tryd.func31, Tryd.ntmps31
  go_wp2_with fail
  refine ret_below (HVA.out _) ?_
  intro w1 hb1
  have hbw1 := below_trans (below_alloc _ _) hb1
  have HP := Lib.hid ((PlanCell.new (w := w) p n h rfl).below hb1)
  have p0 := HP.out.c0
  have p1 := HP.out.c1
  have p2 := HP.out.c2
  go_wp2_with fail
  refine ret_pure (HES.out _ hbw1) ?_
  go_wp2_with fail
  go_ret2
  exact ShErr.nil _ hbw1
set_option maxRecDepth 100000 in
set_option maxHeartbeats 1000000 in
theorem refDeal_ran (p n h : Int) (A B : Option Addr) (ca cb : Nat) (sec ran : List Int) (w : World) (hv : primeV p = validI p) (hA : IntsAt w A sec) (hR : IntsAt w B ran) (hl1 : sec.length ≤ 1048576) (hl2 : ran.length ≤ 1048576) (hpl : plB p n h = true) (hbig : ¬ 2048 < sec.length) (hi : inside p sec = true) (hj : inside p ran = false) :
    Calls Tryd.prog 31 #[planV p n h, .slice A sec.length ca, .slice B ran.length cb] w (ShErr [] 2 w) := by
  have HVA := Lib.hid (fun (W : World) => show Calls Tryd.prog 63 #[planV p n h] W (RetB (.bool true) W) from by have := refValid_plan p n h W hv; rw [hpl] at this; exact this)
  have hpv : primeV p = true := plB_pv hpl hv
  have t1 : decide (2048 < (sec.length : Int)) = false := decide_eq_false (by omega)
  have HES := Lib.hid (fun (W : World) (hb : Below w.heap.size w W) => show Calls Tryd.prog 68 #[.int .i64 p, .slice A sec.length ca] W (Ret (.bool true) W) from by have := refElems_any p A sec ca W hpv (hA.below hb) (by omega); rw [hi] at this; exact this)
  have HER := Lib.hid (fun (W : World) (hb : Below w.heap.size w W) => show Calls Tryd.prog 68 #[.int .i64 p, .slice B ran.length cb] W (Ret (.bool false) W) from by have := refElems_any p B ran cb W hpv (hR.below hb) (by omega); rw [hj] at this; exact this)
  clear hA hR hv hpl hpv hi hj
  go_enter Tryd.func31, Tryd.ntmps31
  go_wp2_with fail
  refine ret_below (HVA.out _) ?_
  intro w1 hb1
  have hbw1 := below_trans (below_alloc _ _) hb1
  have HP := Lib.hid ((PlanCell.new (w := w) p n h rfl).below hb1)
  have p0 := HP.out.c0
  have p1 := HP.out.c1
  have p2 := HP.out.c2
  go_wp2_with fail
  refine ret_pure (HES.out _ hbw1) ?_
  go_wp2_with fail
  refine ret_pure (HER.out _ hbw1) ?_
  go_wp2_with fail
  go_ret2
  exact ShErr.nil _ hbw1
set_option maxRecDepth 100000 in
set_option maxHeartbeats 1000000 in
theorem refDeal_len (p n h : Int) (A B : Option Addr) (ca cb : Nat) (sec ran : List Int) (w : World) (hv : primeV p = validI p) (hA : IntsAt w A sec) (hR : IntsAt w B ran) (hl1 : sec.length ≤ 1048576) (hl2 : ran.length ≤ 1048576) (hpl : plB p n h = true) (hbig : ¬ 2048 < sec.length) (hi : inside p sec = true) (hj : inside p ran = true) (hn1 : 1 ≤ n) (hn2 : n ≤ 1048576) (hle : ¬ (ran.length : Int) = sec.length * (n - 1)) :
    Calls Tryd.prog 31 #[planV p n h, .slice A sec.length ca, .slice B ran.length cb] w (ShErr [] 2 w) := by
  have HVA := Lib.hid (fun (W : World) => show Calls Tryd.prog 63 #[planV p n h] W (RetB (.bool true) W) from by have := refValid_plan p n h W hv; rw [hpl] at this; exact this)
  have hpv : primeV p = true := plB_pv hpl hv
  have t1 : decide (2048 < (sec.length : Int)) = false := decide_eq_false (by omega)
  have HES := Lib.hid (fun (W : World) (hb : Below w.heap.size w W) => show Calls Tryd.prog 68 #[.int .i64 p, .slice A sec.length ca] W (Ret (.bool true) W) from by have := refElems_any p A sec ca W hpv (hA.below hb) (by omega); rw [hi] at this; exact this)
  have HER := Lib.hid (fun (W : World) (hb : Below w.heap.size w W) => show Calls Tryd.prog 68 #[.int .i64 p, .slice B ran.length cb] W (Ret (.bool true) W) from by have := refElems_any p B ran cb W hpv (hR.below hb) (by omega); rw [hj] at this; exact this)
  have HRN := Lib.hid (fun (W : World) => refRandom_any p n h sec.length W (by omega) (by omega) (by omega) (by omega))
  have t2 : ((ran.length : Int) != (sec.length : Int) * (n - 1)) = true := by simp [hle]
  clear hA hR hv hpl hpv hi hj hle
  go_enter Tryd.func31, Tryd.ntmps31
  go_wp2_with fail
  refine ret_below (HVA.out _) ?_
  intro w1 hb1
  have hbw1 := below_trans (below_alloc _ _) hb1
  have HP := Lib.hid ((PlanCell.new (w := w) p n h rfl).below hb1)
  have p0 := HP.out.c0
  have p1 := HP.out.c1
  have p2 := HP.out.c2
  go_wp2_with fail
  refine ret_pure (HES.out _ hbw1) ?_
  go_wp2_with fail
  refine ret_pure (HER.out _ hbw1) ?_
  go_wp2_with fail
  refine ret_below (HRN.out _) ?_
  intro w4 hb4
  have hbw4 := below_trans hbw1 hb4
  go_wp2_with fail
  go_ret2
  exact ShErr.nil _ hbw4
/-- The document's Deal. -/
theorem refDealS_any (p n h : Int) (A B : Option Addr) (ca cb : Nat) (sec ran : List Int) (w : World) (hv : primeV p = validI p) (hA : IntsAt w A sec) (hR : IntsAt w B ran) (hl1 : sec.length ≤ 1048576) (hl2 : ran.length ≤ 1048576) (hok : IOK B cb ran.length) :
    Calls Tryd.prog 31 #[planV p n h, .slice A sec.length ca, .slice B ran.length cb] w (ShErr (shL (dlL p n h sec ran)) (dlE p n h sec ran) w) := by
  rcases hpl : plB p n h with _ | _
  · have e := dlE_pl (sec := sec) (ran := ran) hpl
    rw [dlL_no (by rw [e]; decide), e]
    exact refDeal_inv p n h A B ca cb sec ran w hv hA hR hl1 hl2 hpl
  · by_cases hbig : 2048 < sec.length
    · have e := dlE_big (sec := sec) (ran := ran) hpl hbig
      rw [dlL_no (by rw [e]; decide), e]
      exact refDeal_big p n h A B ca cb sec ran w hv hA hR hl1 hl2 hpl hbig
    · have hPP : PlanP p n h := of_decide_eq_true hpl
      obtain ⟨b1, b2, b3, b4, b5⟩ := hPP
      by_cases hall : inside p sec = true ∧ inside p ran = true ∧ (ran.length : Int) = sec.length * (n - 1)
      · have e := dlE_ok hpl hbig hall
        obtain ⟨q, rfl, hq, hq2⟩ := plan_prime (of_decide_eq_true hpl) hv
        obtain ⟨n', rfl⟩ := Int.eq_ofNat_of_zero_le (show 0 ≤ n by omega)
        obtain ⟨h', rfl⟩ := Int.eq_ofNat_of_zero_le (show 0 ≤ h by omega)
        obtain ⟨e1, e3⟩ := inside_nat hall.1
        obtain ⟨e2, e4⟩ := inside_nat hall.2.1
        have hd : dlL (q : Int) n' h' sec ran = dealN q n' h' (sec.map Int.toNat) (ran.map Int.toNat) := by unfold dlL; rw [if_pos e]; rfl
        rw [hd, e]
        have hs1 : (sec.map Int.toNat).length = sec.length := List.length_map _
        have hs2 : (ran.map Int.toNat).length = ran.length := List.length_map _
        have hAn : NatsAt w A (sec.map Int.toNat) := IntsAt.nats (by rw [e1]; exact hA)
        have hRn : NatsAt w B (ran.map Int.toNat) := IntsAt.nats (by rw [e2]; exact hR)
        have hle : (ran.map Int.toNat).length = (sec.map Int.toNat).length * (n' - 1) := by
          rw [hs1, hs2]
          have h1 := hall.2.2
          rw [show (n' : Int) - 1 = ((n' - 1 : Nat) : Int) by omega] at h1
          exact Int.ofNat_inj.1 (by push_cast; exact h1)
        rcases Nat.lt_or_ge n' 2 with h1 | h1
        · have := refDeal_z q n' h' A B ca cb (sec.map Int.toNat) (ran.map Int.toNat) w hq hq2 hv hpl (by omega) (by omega) (by omega) (by omega) (by omega) hAn hRn (by rw [hs2]; exact hok) e3 e4 hle (by omega) (by omega)
          rw [hs1, hs2] at this
          exact this
        · have := refDeal_k q n' h' A B ca cb (sec.map Int.toNat) (ran.map Int.toNat) w hq hq2 hv hpl (by omega) h1 (by omega) (by omega) (by omega) hAn hRn (by rw [hs2]; exact hok) e3 e4 hle (by omega) (by omega)
          rw [hs1, hs2] at this
          exact this
      · have e := dlE_bad hpl hbig hall
        rw [dlL_no (by rw [e]; decide), e]
        rcases hi : inside p sec with _ | _
        · exact refDeal_sec p n h A B ca cb sec ran w hv hA hR hl1 hl2 hpl hbig hi
        · rcases hj : inside p ran with _ | _
          · exact refDeal_ran p n h A B ca cb sec ran w hv hA hR hl1 hl2 hpl hbig hi hj
          · exact refDeal_len p n h A B ca cb sec ran w hv hA hR hl1 hl2 hpl hbig hi hj b1 (by omega) (fun H => hall ⟨hi, hj, H⟩)
end Go.Proofs.YtlhipgejiacklaaDoor
namespace Go.Proofs.YtlhipgejiacklaaDoor
open Go.RowKit

/-- b^e % n in three steps. -/
def fpk (k K b e n : Nat) : Nat := Nat.mod (Nat.mul (Nat.pow (Nat.mod (Nat.mul (Nat.pow (Nat.mod (Nat.pow b (Nat.div e K)) n) k) (Nat.pow b (Nat.mod (Nat.div e k) k))) n) k) (Nat.pow b (Nat.mod e k))) n
theorem fpk_eq (k K b e n : Nat) (hK : K = k * k) : fpk k K b e n = b ^ e % n := by
  show (((b ^ (e / K) % n) ^ k * b ^ (e / k % k) % n) ^ k * b ^ (e % k)) % n = b ^ e % n
  have h1 : ∀ x y : Nat, ((x % n) ^ k * y) % n = (x ^ k * y) % n := fun x y => by
    rw [Nat.mul_mod, ← Nat.pow_mod, ← Nat.mul_mod]
  have h2 : ∀ x y z : Nat, (((x % n) ^ k * y) ^ k * z) % n = ((x ^ k * y) ^ k * z) % n := fun x y z => by
    rw [Nat.mul_mod, Nat.pow_mod, h1, ← Nat.pow_mod, ← Nat.mul_mod]
  rw [h1, h2]
  simp only [← Nat.pow_mul, ← Nat.pow_add]
  congr 2
  rw [hK, ← Nat.div_div_eq_div_mul, Nat.mul_comm (e / k / k) k, Nat.div_add_mod, Nat.mul_comm, Nat.div_add_mod]
def fp (b e n : Nat) : Nat := fpk 1024 1048576 b e n
theorem fp_eq (b e n : Nat) : fp b e n = b ^ e % n := fpk_eq 1024 1048576 b e n (by decide +kernel)
/-! ### Passing is Fermat's law -/
theorem sq_pred {n : Nat} (h : 2 ≤ n) : (n - 1) ^ 2 % n = 1 := by
  have e : (n - 1) ^ 2 = n * (n - 2) + 1 := by
    obtain ⟨m, rfl⟩ : ∃ m, n = m + 2 := ⟨n - 2, by omega⟩
    simp only [Nat.add_sub_cancel, show m + 2 - 1 = m + 1 by omega, Nat.pow_two, Nat.add_mul, Nat.mul_add]; omega
  rw [e, Nat.mul_add_mod]; exact Nat.mod_eq_of_lt (by omega)
theorem pow_one_mod {n x k : Nat} (hn : 2 ≤ n) (h : x % n = 1) : x ^ k % n = 1 := by
  rw [Nat.pow_mod, h, Nat.one_pow]; exact Nat.mod_eq_of_lt (by omega)
theorem mrGo_fermat {n : Nat} (hn : 2 ≤ n) : ∀ k x, mrGo n k x = true → ∃ j, 1 ≤ j ∧ j ≤ k ∧ x ^ (2 ^ j) % n = n - 1
  | 0, x, h => by simp [mrGo] at h
  | k + 1, x, h => by
    by_cases hy : fmul n x x = n - 1
    · exact ⟨1, by omega, by omega, by rw [← hy]; unfold fmul; rw [Nat.pow_one, Nat.pow_two]⟩
    · rw [mrGo_no n k x hy] at h
      obtain ⟨j, h1, h2, h3⟩ := mrGo_fermat hn k _ h
      refine ⟨j + 1, by omega, by omega, ?_⟩
      rw [← h3]
      unfold fmul
      rw [← Nat.pow_mod, ← Nat.pow_two, ← Nat.pow_mul, ← Nat.pow_succ']
theorem pow_up {n x j s : Nat} (hn : 2 ≤ n) (hj : j < s) (h : x ^ (2 ^ j) % n = n - 1) : x ^ (2 ^ s) % n = 1 := by
  have e : 2 ^ s = 2 ^ j * 2 * 2 ^ (s - j - 1) := by
    rw [← Nat.pow_succ, ← Nat.pow_add]; congr 1; omega
  rw [e, Nat.pow_mul]
  refine pow_one_mod hn ?_
  rw [Nat.pow_mul, Nat.pow_mod, h]; exact sq_pred hn
theorem pass_fermat {n b : Nat} (hn : 3 ≤ n) (hn2 : n ≤ 2147483648) (hodd : n % 2 = 1) (hc : Nat.Coprime n b) (h : mrPass n b = true) : b ^ (n - 1) % n = 1 := by
  have hm := mr_mul n
  have hx : mrX n b = b ^ mrD n % n := by unfold mrX fpow; rw [← Nat.pow_mod]
  have hs : 1 ≤ mrS n := by
    rcases Nat.eq_zero_or_pos (mrS n) with h0 | h0
    · exfalso
      have hd := mr_odd n (by omega) hn2
      rw [h0, Nat.pow_zero, Nat.mul_one] at hm
      omega
    · exact h0
  have key : ∀ j, j < mrS n → (b ^ mrD n) ^ (2 ^ j) % n = n - 1 → b ^ (n - 1) % n = 1 := fun j hj he => by
    rw [← hm, Nat.pow_mul]; exact pow_up (by omega) hj he
  by_cases h1 : mrX n b = 1
  · rw [← hm, Nat.pow_mul]; exact pow_one_mod (by omega) (by rw [← hx]; exact h1)
  · by_cases h2 : mrX n b = 0
    · exfalso
      rw [hx] at h2
      have hd : n ∣ b ^ mrD n := Nat.dvd_of_mod_eq_zero h2
      have := (Nat.Coprime.pow_right (mrD n) hc).eq_one_of_dvd hd
      omega
    · by_cases h3 : mrX n b = n - 1
      · exact key 0 hs (by rw [Nat.pow_zero, Nat.pow_one, ← hx]; exact h3)
      · rw [← mr_later n b (by intro h; rcases h with h | h | h <;> contradiction)] at h
        obtain ⟨j, j1, j2, j3⟩ := mrGo_fermat (by omega) _ _ h
        refine key j (by omega) ?_
        rw [hx, ← Nat.pow_mod] at j3; exact j3
/-! ### A quick test -/
def mrXF (n b : Nat) : Nat := fp (b % n) (mrD n) n
theorem mrXF_eq (n b : Nat) : mrXF n b = mrX n b := by unfold mrXF mrX fpow; exact fp_eq _ _ _
def mrPassF (n b : Nat) : Bool := if mrXF n b = 1 ∨ mrXF n b = 0 ∨ mrXF n b = n - 1 then true else mrGo n (mrS n - 1) (mrXF n b)
theorem mrPassF_eq (n b : Nat) : mrPassF n b = mrPass n b := by unfold mrPassF mrPass; rw [mrXF_eq]
/-- n does not pass. -/
def tst (n : Nat) : Bool := !(Nat.beq (fp 2 (n - 1) n) 1) || !(mrPassF n 2 && mrPassF n 3 && mrPassF n 5 && mrPassF n 7)
/-- n passes for all four bases, and is prime to them. -/
structure Pass4 (n : Nat) : Prop where
  lo : 3 ≤ n
  hi : n ≤ 1073741824
  odd : n % 2 = 1
  c2 : Nat.Coprime n 2
  c3 : Nat.Coprime n 3
  c5 : Nat.Coprime n 5
  c7 : Nat.Coprime n 7
  p2 : mrPass n 2 = true
  p3 : mrPass n 3 = true
  p5 : mrPass n 5 = true
  p7 : mrPass n 7 = true
theorem Pass4.tst {n : Nat} (h : Pass4 n) : tst n = false := by
  have h2 := pass_fermat h.lo (by have := h.hi; omega) h.odd h.c2 h.p2
  unfold Go.Proofs.YtlhipgejiacklaaDoor.tst
  rw [mrPassF_eq, mrPassF_eq, mrPassF_eq, mrPassF_eq, h.p2, h.p3, h.p5, h.p7, fp_eq, h2]; rfl
theorem Pass4.f2 {n : Nat} (h : Pass4 n) : 2 ^ (n - 1) % n = 1 := pass_fermat h.lo (by have := h.hi; omega) h.odd h.c2 h.p2
theorem Pass4.f3 {n : Nat} (h : Pass4 n) : 3 ^ (n - 1) % n = 1 := pass_fermat h.lo (by have := h.hi; omega) h.odd h.c3 h.p3
theorem Pass4.f5 {n : Nat} (h : Pass4 n) : 5 ^ (n - 1) % n = 1 := pass_fermat h.lo (by have := h.hi; omega) h.odd h.c5 h.p5
theorem Pass4.f7 {n : Nat} (h : Pass4 n) : 7 ^ (n - 1) % n = 1 := pass_fermat h.lo (by have := h.hi; omega) h.odd h.c7 h.p7
theorem coprime_of_mod {n q : Nat} (hq : PrimeN q) (h : ¬ n % q = 0) : Nat.Coprime n q := by
  have := hq.coprime (a := n) (fun e => h (Nat.mod_eq_zero_of_dvd e))
  exact this.symm
theorem vGo_step {n b : Nat} {l : List Nat} (h : vGo n (b :: l) = true) : n = b ∨ (¬ n % b = 0 ∧ mrPass n b = true ∧ vGo n l = true) := by
  by_cases h1 : n = b
  · exact .inl h1
  · by_cases h2 : n % b = 0
    · rw [vGo_div h1 h2] at h; cases h
    · by_cases h3 : mrPass n b = true
      · rw [vGo_pass h1 h2 h3] at h; exact .inr ⟨h2, h3, h⟩
      · rw [vGo_fail h1 h2 (by simpa using h3)] at h; cases h
theorem valid_pass {n : Nat} (h : validI (n : Int) = true) : n = 2 ∨ n = 3 ∨ n = 5 ∨ n = 7 ∨ Pass4 n := by
  have h2 : 2 ≤ n := by
    rcases Nat.lt_or_ge n 2 with h1 | h1
    · rw [← validI_small (p := (n : Int)) (by omega)] at h; cases h
    · exact h1
  rw [← validI_nat h2] at h
  by_cases hb : n < 2 ∨ 1073741824 < n ∨ (2 < n ∧ n % 2 = 0)
  · unfold validF at h; rw [if_pos hb] at h; cases h
  · rw [← validF_go hb] at h
    rcases vGo_step h with e | ⟨a2, b2, h⟩
    · exact .inl e
    · rcases vGo_step h with e | ⟨a3, b3, h⟩
      · exact .inr (.inl e)
      · rcases vGo_step h with e | ⟨a5, b5, h⟩
        · exact .inr (.inr (.inl e))
        · rcases vGo_step h with e | ⟨a7, b7, -⟩
          · exact .inr (.inr (.inr (.inl e)))
          · exact .inr (.inr (.inr (.inr ⟨by omega, by omega, by omega, coprime_of_mod prime_2 a2, coprime_of_mod prime_3 a3, coprime_of_mod prime_5 a5, coprime_of_mod prime_7 a7, b2, b3, b5, b7⟩)))
end Go.Proofs.YtlhipgejiacklaaDoor
