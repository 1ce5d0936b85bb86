/-
  Reshare: Move.
  Reshare: the sanity check; random numbers for each old holder.
  Explain: which shares fit known ones and give a secret (the plain law).
  Explain: the rows that the program's and the document's way give are the same (the plain law).
  append(s, make([]int, m)...): zeros onto a row of the own.
  Shares: the program's Explain.
  Shares: the document's Deal of any plan and numbers.
  The document's Explain: which holders are known (a map), shares made at once, two lists under way.
  Conditions: those that each theorem names.
-/
import Derived.Test.YtlhipgejiacklaaDoorM8
import Derived.Laws.MakeOwn
set_option linter.unusedVariables false
set_option linter.unusedSimpArgs false
namespace Go.Proofs.YtlhipgejiacklaaDoor
open Go.RowKit
attribute [local go_sem high] sliced_low

def midN (p n' h' : Nat) (M : List ShN) (rs : List (List Nat)) (k j : Nat) : List (List ShN) := (List.range h').map fun q => if q < j then givenN p n' h' M rs (k + 1) q else givenN p n' h' M rs k q
theorem midN_len (p n' h' : Nat) (M : List ShN) (rs : List (List Nat)) (k j : Nat) : (midN p n' h' M rs k j).length = h' := by simp [midN]
theorem midN_at {p n' h' : Nat} {M : List ShN} {rs : List (List Nat)} {k j q : Nat} (hq : q < h') : (midN p n' h' M rs k j)[q]? = some (if q < j then givenN p n' h' M rs (k + 1) q else givenN p n' h' M rs k q) := by simp [midN, hq]
theorem midN_succ {p n' h' : Nat} {M : List ShN} {rs : List (List Nat)} {k j : Nat} (hj : j < h') : (midN p n' h' M rs k j).set j (givenN p n' h' M rs k j ++ [(j + 1, vN (dealN p n' h' (vN M k) (rs.getD k [])) j)]) = midN p n' h' M rs k (j + 1) := by
  refine List.ext_getElem? fun q => ?_
  rcases Nat.lt_or_ge q h' with hq | hq
  · by_cases e : j = q
    · subst e
      rw [List.getElem?_set_self (by rw [midN_len]; exact hq), midN_at hq, if_pos (by omega), givenN_succ]
    · rw [List.getElem?_set_ne e, midN_at hq, midN_at hq]
      by_cases h1 : q < j
      · rw [if_pos h1, if_pos (by omega)]
      · rw [if_neg h1, if_neg (by omega)]
  · rw [List.getElem?_eq_none (by rw [List.length_set, midN_len]; exact hq), List.getElem?_eq_none (by rw [midN_len]; exact hq)]
def gvnL (p n' h' : Nat) (M : List ShN) (rs : List (List Nat)) (k : Nat) : List (List ShN) := (List.range h').map fun q => givenN p n' h' M rs k q
theorem mid_zero (p n' h' : Nat) (M : List ShN) (rs : List (List Nat)) (k : Nat) : midN p n' h' M rs k 0 = gvnL p n' h' M rs k := by simp [midN, gvnL]
theorem mid_all (p n' h' : Nat) (M : List ShN) (rs : List (List Nat)) (k : Nat) : midN p n' h' M rs k h' = gvnL p n' h' M rs (k + 1) := by
  unfold midN gvnL
  refine List.map_congr_left fun q hq => ?_
  rw [if_pos (List.mem_range.1 hq)]
theorem gvn_zero (p n' h' : Nat) (M : List ShN) (rs : List (List Nat)) : gvnL p n' h' M rs 0 = List.replicate h' [] := by simp [gvnL, givenN, List.map_const']

theorem DealR.weak {N : List ShN} {h : Nat} {w W w' : World} {e : Ending} (H : DealR N h W e w') (hb : Below w.heap.size w W) : DealR N h w e w' := by
  obtain ⟨A, c, he, hS, hb2⟩ := H
  exact ⟨A, c, he, hS.mono (fun b _ hq => Nat.le_trans hb.size hq), below_trans hb hb2⟩

theorem GivenR.own_lt {w : World} {base g : Nat} {Vs : List Value} {Ns : List (List ShN)} (h : GivenR w base g Vs Ns) : ∀ u ∈ Vs, ∀ b, u.ownBlock = some b → b < w.heap.size := fun u hu b hb => by
  obtain ⟨i, hi, rfl⟩ := List.getElem_of_mem hu
  exact ((h.row i _ _ (List.getElem?_eq_getElem hi) (List.getElem?_eq_getElem (show i < Ns.length by rw [← h.len]; exact hi))).lt b hb).2
theorem parts_add {W w' : World} {base g k : Nat} {Vs : List Value} {v v' : Value} {DA : Option Addr} {dc : Nat} {S : List Shr} (h : ShP (fun b => base ≤ b ∧ b ≠ g ∧ ∀ u ∈ Vs, u.ownBlock ≠ some b) W DA dc S) (hk : Vs[k]? = some v) (hg : W.grownBy w' v.ownBlock)
    (hv : ∀ b, v'.ownBlock = some b → v.ownBlock = some b ∨ W.heap.size ≤ b) : ShP (fun b => base ≤ b ∧ b ≠ g ∧ ∀ u ∈ Vs.set k v', u.ownBlock ≠ some b) (w'.setCell ⟨g, k, none⟩ v') DA dc S := by
  have hmem : v ∈ Vs := List.mem_of_getElem? hk
  have h1 : ShP (fun b => (base ≤ b ∧ b ≠ g ∧ ∀ u ∈ Vs.set k v', u.ownBlock ≠ some b) ∧ v.ownBlock ≠ some b) W DA dc S := h.mono fun b hlt hb => ⟨⟨hb.1, hb.2.1, fun u hu => by
    rcases List.mem_or_eq_of_mem_set hu with h1 | h1
    · exact hb.2.2 u h1
    · subst h1
      intro e
      rcases hv b e with e | e
      · exact hb.2.2 v hmem e
      · omega⟩, hb.2.2 v hmem⟩
  have h2 := h1.keep (w' := w') ⟨hg.size, fun b hb hlt => hg.block b hlt (fun e => hb.2 e.symm)⟩
  have h3 := h2.keep (w' := w'.setCell ⟨g, k, none⟩ v') ⟨by simp [World.setCell], fun b hb hlt => Below.heap_setCell w' _ v' b (fun e => hb.1.2.1 e)⟩
  exact h3.mono fun b _ hb => hb.1

set_option maxRecDepth 100000 in
set_option maxHeartbeats 8000000 in
theorem move_made {P P' : Nat → Prop} (p n h n' h' : Nat) (A RA : Option Addr) (c rc kM kr : Nat) (a : List Nat) (M : List ShN) (rs : List (List Nat)) (w : World) (PN : PlanN p n h) (PN' : PlanN p n' h') (hB : Bases w) (H : Made p n h a M) (hm : a.length ≤ 64) (hA : ShP P w A c (shL M)) (hR : LstP P' w RA rc rs)
    (hn : n ≤ M.length) (hl : M.length ≤ 16) (hkM : kM = M.length) (hkr : kr = rs.length) (hr : n ≤ rs.length) (hr2 : rs.length ≤ 1000) (hrs : Rands p n' a.length n rs) :
    Calls Tryd.prog 46 #[planV p n h, planV p n' h', .slice A kM c, .slice RA kr rc] w (DealR (movedN p n' h' M rs n) h' w) := by
  subst hkM hkr
  have hn1 := PN.n1
  have hp1 := PN.p1
  have hcap := hA.cap
  have hh'7 := PN'.h7
  have HCK := Lib.hid (fun (W : World) (hb : Below w.heap.size w W) => check_made (k := M.length) H PN A c W (hB.below hb hB.1) (hA.below hb) (by omega) (by omega) rfl hn)
  have HPL := Lib.hid (fun (W : World) (hb : Below w.heap.size w W) => plans_made p n h n' h' W PN PN' (hB.below hb hB.1))
  have HBS := Lib.hid hB
  have HA := Lib.hid hA
  have HR := Lib.hid hR
  have HM := Lib.hid H
  have HPN := Lib.hid PN
  have HPN' := Lib.hid PN'
  have HRS := Lib.hid hrs
  clear hB hA hR H PN PN' hrs
  go_enter Tryd.func46, Tryd.ntmps46
  go_wp2_with fail
  refine gen_calls fun w1 hw1 => ?_
  have hP : PlanCell w1 w.heap.size p n h := by rw [hw1]; exact (PlanCell.new _ _ _ rfl).alloc _
  have hQ : PlanCell w1 (w.heap.size + 1) p n' h' := by rw [hw1]; exact PlanCell.new _ _ _ (by simp)
  have hb1 : Below w.heap.size w w1 := by rw [hw1]; exact bl_alloc _ (below_alloc _ _)
  clear hw1
  refine ret_below (HCK.out _ hb1) fun w2 hb2 => ?_
  have hb2w := below_trans hb1 hb2
  have hP2 := hP.below hb2
  have hQ2 := hQ.below hb2
  have p0 := hP2.c0
  have p1 := hP2.c1
  have p2 := hP2.c2
  have q0 := hQ2.c0
  have q1 := hQ2.c1
  have q2 := hQ2.c2
  clear hP hQ hb1 hb2
  go_wp2_with fail
  refine ret_below (HPL.out _ hb2w) fun w3 hb3 => ?_
  have hb3w := below_trans hb2w hb3
  have HP3 := Lib.hid (hP2.below hb3)
  have HQ3 := Lib.hid (hQ2.below hb3)
  have p03 := HP3.out.c0
  have p13 := HP3.out.c1
  have p23 := HP3.out.c2
  have q03 := HQ3.out.c0
  have q13 := HQ3.out.c1
  have q23 := HQ3.out.c2
  have lq3 := HQ3.out.lt
  have i0 : (n : Int) ≤ (c : Int) := by omega
  have i1 : (0 : Int) ≤ (n : Int) := by omega
  clear p0 p1 p2 q0 q1 q2 hP2 hQ2 hb2w hb3 HCK HPL
  go_wp2_with (at_make; refine make_shs rfl _ _ rfl h' rfl rfl rfl (by omega) ?_; intro w4 hg4 hb4)
  have hgl := blk_lt hg4
  have HG4 := Lib.hid (GivenR.new hg4 (Nat.le_refl _))
  have HB4 := Lib.hid hb4
  clear hg4 hb4
  go_loopw [49] (fun i wr => ∃ (k : Nat) (Vs : List Value), k ≤ n ∧ i = .int .i64 k ∧ GivenR wr w3.heap.size w3.heap.size Vs (gvnL p n' h' M rs k) ∧ Below w3.heap.size w3 wr) (fun i _ => n - (intOf i).toNat)
  case atStart => exact ⟨0, _, Nat.zero_le _, rfl, by rw [gvn_zero]; exact HG4.out, HB4.out⟩
  case round =>
    obtain ⟨k, Vs, hk, rfl, hG, hbr⟩ := hrel
    have hbw := below_trans hb3w hbr
    have hsz := hbr.size
    by_cases hlt : k < n
    · have hkM : k < M.length := by omega
      obtain ⟨b1', o1, B1, c1, rfl, hb1, -, x0, x1, hX, -⟩ := (HA.out.below hbw).nat hkM
      obtain ⟨b2, o2, B2, c2, rfl, hb2, -, u0, hU, hUI⟩ := (HR.out.below hbw).at_ k (show k < rs.length by omega)
      have hUN := hUI.ints.nats
      obtain ⟨hx1, hx2, hLp⟩ := (HM.out.good HPN.out.p1 (by omega)).rng k hkM
      have hLl := HM.out.vlen hkM
      have hRl := HRS.out.len k hlt
      have hRp := HRS.out.lt k hlt
      have hRl2 : (rs.getD k []).length ≤ 1048576 := by
        have h0 : a.length * (n' - 1) ≤ 64 * 16 := Nat.mul_le_mul (by omega) (by have := HPN'.out.h7; have := HPN'.out.nh; omega)
        omega
      obtain ⟨DD, hDD⟩ : ∃ D, D = dealN p n' h' (vN M k) (rs.getD k []) := ⟨_, rfl⟩
      have hDl : DD.length = h' := by rw [hDD]; exact deal_len _ _ _ _ _
      have HSPL := Lib.hid (fun (W : World) (hb : Below wr.heap.size wr W) => show Calls Tryd.prog 42 #[planV p n h, planV p n' h', shV (hN M k : Nat) (.slice B1 (vN M k).length c1), .slice B2 (rs.getD k []).length c2] W (DealR DD h' W) from by
        rw [hDD]
        exact split_made p n h n' h' (hN M k) B1 B2 (vN M k) (rs.getD k []) c1 c2 _ W HPN.out HPN'.out (HBS.out.below (below_trans hbw hb) HBS.out.1) (hX.below hb) (hUN.below hb) hU hx1 hx2 hLp hRp (by omega) (by rw [hRl, hLl]) hRl2 rfl)
      have HDD := Lib.hid (And.intro hDD hDl)
      generalize hL : vN M k = L at *
      generalize hx : hN M k = x at *
      generalize hRd : rs.getD k [] = R at *
      have HLX := Lib.hid (And.intro hL (And.intro hx (And.intro hRd (And.intro hLl hRl))))
      have hP := HP3.out.below hbr
      have hQ := HQ3.out.below hbr
      have p0' := hP.c0
      have p1' := hP.c1
      have p2' := hP.c2
      have q0' := hQ.c0
      have q1' := hQ.c1
      have q2' := hQ.c2
      have lq' := hQ.lt
      have i0 : (0 : Int) ≤ (k : Int) := by omega
      have i1 : (k : Int) < (n : Int) := by omega
      have i2 : (k : Int) < (rs.length : Int) := by omega
      have HGV := Lib.hid hG
      clear hLl hRl hX hU hUI hUN hLp hRp hL hx hRd hDD hDl hP hQ hx1 hx2 hG p03 p13 p23 q03 q13 q23
      go_wp2_with fail
      refine gen_world fun w7 hw7 => ?_
      have hsc : ShCell w7 wr.heap.size x (.slice B1 L.length c1) := by rw [hw7]; exact ShCell.new _ _ rfl
      have hb7 : Below wr.heap.size wr w7 := by rw [hw7]; exact below_alloc _ _
      have hb7z := hb7.size
      have v0 := hsc.c0
      have v1 := hsc.c1
      have lg7 := hsc.lt
      have lpr : w.heap.size < wr.heap.size := by omega
      have lp7 : w.heap.size < w7.heap.size := by omega
      have lz7 : w.heap.size + 1 < w7.heap.size := by omega
      have lb7 : b2 < w7.heap.size := by omega
      have y0 := (hb7.cell (p := ⟨w.heap.size, 0, none⟩) lpr).trans p0'
      have y1 := (hb7.cell (p := ⟨w.heap.size, 1, none⟩) lpr).trans p1'
      have y2 := (hb7.cell (p := ⟨w.heap.size, 2, none⟩) lpr).trans p2'
      have y3 := (hb7.cell (p := ⟨w.heap.size + 1, 0, none⟩) lq').trans q0'
      have y4 := (hb7.cell (p := ⟨w.heap.size + 1, 1, none⟩) lq').trans q1'
      have y5 := (hb7.cell (p := ⟨w.heap.size + 1, 2, none⟩) lq').trans q2'
      have u0 := (hb7.cell (p := ⟨b2, o2 + k, none⟩) hb2).trans u0
      clear hw7 hsc p0' p1' p2' q0' q1' q2' x0 x1
      go_region_held3 (fun w' => w'.cell? ⟨w.heap.size, 0, none⟩ = some (.int .i64 (p : Int)) ∧ w'.cell? ⟨w.heap.size, 1, none⟩ = some (.int .i64 (n : Int)) ∧ w'.cell? ⟨w.heap.size, 2, none⟩ = some (.int .i64 (h : Int)) ∧ w'.cell? ⟨w.heap.size + 1, 0, none⟩ = some (.int .i64 (p : Int)) ∧ w'.cell? ⟨w.heap.size + 1, 1, none⟩ = some (.int .i64 (n' : Int)) ∧ w'.cell? ⟨w.heap.size + 1, 2, none⟩ = some (.int .i64 (h' : Int)) ∧ w'.cell? ⟨wr.heap.size, 0, none⟩ = some (.int .i64 (x : Int)) ∧ w'.cell? ⟨wr.heap.size, 1, none⟩ = some (.slice B1 L.length c1) ∧ w'.cell? ⟨b2, o2 + k, none⟩ = some (.slice B2 R.length c2)) (first | go_keep)
        (first | (go_at_call 42; refine (HSPL.out _ (below_trans hb7 (by (repeat (first | exact bl_refl _ | apply bl_drew | apply bl_alloc))))).mono ?_; rintro e w8 hR8; obtain ⟨DA, dc, rfl, hD, hb8⟩ := hR8.weak (w := w7) (by (repeat (first | exact bl_refl _ | apply bl_drew | apply bl_alloc))); have zd := hb8.size; have s0 := (hb8.cell (p := ⟨w.heap.size, 0, none⟩) lp7).trans y0; have s1 := (hb8.cell (p := ⟨w.heap.size, 1, none⟩) lp7).trans y1; have s2 := (hb8.cell (p := ⟨w.heap.size, 2, none⟩) lp7).trans y2; have s3 := (hb8.cell (p := ⟨w.heap.size + 1, 0, none⟩) lz7).trans y3; have s4 := (hb8.cell (p := ⟨w.heap.size + 1, 1, none⟩) lz7).trans y4; have s5 := (hb8.cell (p := ⟨w.heap.size + 1, 2, none⟩) lz7).trans y5; have s6 := (hb8.cell (p := ⟨wr.heap.size, 0, none⟩) lg7).trans v0; have s7 := (hb8.cell (p := ⟨wr.heap.size, 1, none⟩) lg7).trans v1; have s8 := (hb8.cell (p := ⟨b2, o2 + k, none⟩) lb7).trans u0))
      all_goals
        have hG8 := HGV.out.below (below_trans hb7 hb8)
        have hQ8 : ShP (fun b => w3.heap.size ≤ b ∧ b ≠ w3.heap.size ∧ ∀ u ∈ Vs, u.ownBlock ≠ some b) w8 DA dc (shL DD) := hD.mono fun b _ hb => ⟨by omega, by omega, fun u hu e => by have := HGV.out.own_lt u hu b e; omega⟩
        have hB8 : Below w3.heap.size w3 w8 := hbr.trans ((below_trans hb7 hb8).mono hsz)
        have HG8 := Lib.hid (And.intro hG8 (And.intro hQ8 hB8))
        clear hD hG8 hQ8 hB8 HGV hR8 s0 s1 s2 s3 s4 s5 s6 s7 s8 y0 y1 y2 y3 y4 y5 u0 v0 v1 HSPL
        go_wp2_with fail
        go_loopw [70] (fun i wq => ∃ (j : Nat) (Vs : List Value), j ≤ h' ∧ i = .int .i64 j ∧ GivenR wq w3.heap.size w3.heap.size Vs (midN p n' h' M rs k j) ∧ ShP (fun b => w3.heap.size ≤ b ∧ b ≠ w3.heap.size ∧ ∀ u ∈ Vs, u.ownBlock ≠ some b) wq DA dc (shL DD) ∧ Below w3.heap.size w3 wq) (fun i _ => h' - (intOf i).toNat)
        case atStart => exact ⟨0, Vs, Nat.zero_le _, rfl, by rw [mid_zero]; exact HG8.out.1, HG8.out.2.1, HG8.out.2.2⟩
        case round =>
          clear HG8 hbr hsz hbw hb7 hb7z hb8 zd hb1 hb2
          obtain ⟨j, Us, hj, rfl, hG, hQ, hbr⟩ := hrel
          have hsz := hbr.size
          by_cases hjl : j < h'
          · obtain ⟨b3, o3, B3, c3, rfl, hb3, -, z0, z1, -, hI3⟩ := hQ.nat (show j < DD.length by rw [HDD.out.2]; exact hjl)
            obtain ⟨hdx, hdl, hdp⟩ := deal_row (p := p) (n := n') (h := h') (sec := L) (ran := R) HPN.out.p1 hjl
            have hN := midN_at (p := p) (n' := n') (h' := h') (M := M) (rs := rs) (k := k) (j := j) hjl
            rw [if_neg (Nat.lt_irrefl _)] at hN
            obtain ⟨v, hv⟩ : ∃ v, Us[j]? = some v := ⟨_, List.getElem?_eq_getElem (show j < Us.length by rw [hG.len, midN_len]; exact hjl)⟩
            obtain ⟨VA, vc, rfl, -⟩ := (hG.row j v _ hv hN).read
            obtain ⟨hc0, hf0⟩ := hG.cell hv
            rw [← HDD.out.1] at hdx hdl hdp
            rw [hdx] at z0
            rw [shL_len, givenN_len] at hc0 hv
            have HJX := Lib.hid hdx
            have HQ := Lib.hid (And.intro hG (And.intro hQ (And.intro hN (And.intro hv hI3))))
            have HMS := Lib.hid (midN_succ (p := p) (n' := n') (h' := h') (M := M) (rs := rs) (k := k) hjl)
            rw [HLX.out.1, HLX.out.2.2.1, ← HDD.out.1] at HMS
            generalize hK : vN DD j = K at *
            have hgl' := hG.lt
            have hno := hG.no _ (List.mem_of_getElem? hv)
            have i3 : (0 : Int) ≤ (j : Int) := by omega
            have i4 : (j : Int) < (h' : Int) := by omega
            have HNO := Lib.hid hno
            clear hG hQ hN hv hI3 hdx hdl hdp hno hK
            go_wp2_with fail
            refine gen_world fun w9 hw9 => ?_
            have hsc : ShCell w9 wr.heap.size ((j : Int) + 1) (.slice B3 K.length c3) := by rw [hw9]; exact ShCell.new _ _ rfl
            have hb9 : Below wr.heap.size wr w9 := by rw [hw9]; exact below_alloc _ _
            have hb9z := hb9.size
            have v0 := hsc.c0
            have v1 := hsc.c1
            have lg9 := hsc.lt
            have l9 : w3.heap.size < w9.heap.size := by omega
            have g0 := (hb9.cell (p := ⟨w3.heap.size, j, none⟩) hgl').trans hc0
            have gf := (hb9.frozen (p := ⟨w3.heap.size, j, none⟩) hgl').trans hf0
            obtain ⟨hG, hQ, hN, hv, hI3⟩ := HQ.out
            have hG9 := hG.below hb9
            obtain ⟨H, e1, e2, e3⟩ := (hG9.row j _ _ hv hN).ex
            have hHl : H.length ≤ 1000 := by rw [e2, shL_len, givenN_len]; omega
            have HE := Lib.hid (And.intro e2 e3)
            have HG9 := Lib.hid hG9
            have HI9 := Lib.hid (hI3.keep (Kept.below hb9))
            have HQ9 := Lib.hid (hQ.below hb9)
            have HVN := Lib.hid (And.intro hv hN)
            clear hw9 hsc hG hQ hN hv hI3 hG9 e2 e3 hc0 hf0 z0 z1
            go_region_law (refine step_app_hv _ rfl (.tmp 80) (.tmp 82) rfl w9 w3.heap.size (.slice VA k vc) H ((j : Int) + 1) (.slice B3 K.length c3) rfl rfl ⟨rfl, rfl, rfl, rfl⟩ rfl e1 (by omega) (by omega) ?_; intro g6 c6 w6 hown6 hg6 hat6 hb6; have n1 := (World.cell?_of_block (a := ⟨w3.heap.size, j, none⟩) (hg6.block w3.heap.size l9 (fun e => HNO.out e.symm))).trans g0; have n2 := (World.frozen?_of_block (a := ⟨w3.heap.size, j, none⟩) (hg6.block w3.heap.size l9 (fun e => HNO.out e.symm))).trans gf)
            all_goals
              have hvb : ∀ b, (Value.slice (some ⟨g6, 0, none⟩) (H.length + 1) c6).ownBlock = some b → (Value.slice VA k vc).ownBlock = some b ∨ w9.heap.size ≤ b := fun b e2 => by
                have : g6 = b := Option.some.inj (show some g6 = some b from e2)
                subst this
                exact hat6
              have hA := GivenR.add (x := j + 1) (L := K) HG9.out HVN.out.1 HE.out.1 HE.out.2 HI9.out hown6 hg6 hvb
              rw [HMS.out] at hA
              have HAA := Lib.hid (And.intro hA (And.intro (parts_add HQ9.out HVN.out.1 hg6 hvb) (((hbr.trans (hb9.mono hsz)).trans hb6).setCell (p := ⟨w3.heap.size, j, none⟩) (Nat.le_refl _) (.slice (some ⟨g6, 0, none⟩) (H.length + 1) c6))))
              clear hA hvb hown6 hg6 hat6 n1 n2 e1
              go_wp2_with fail
              go_roundw
              case rel => exact ⟨j + 1, _, by omega, by go_num, HAA.out.1, HAA.out.2.1, HAA.out.2.2⟩
              case measure => simp [intOf]; omega
          · obtain rfl : j = h' := by omega
            rw [mid_all] at hG
            have HAA := Lib.hid (And.intro hG hbr)
            clear hG hQ
            go_wp2_with fail
            go_roundw
            case rel => exact ⟨k + 1, _, by omega, by go_num, HAA.out.1, HAA.out.2⟩
            case measure => simp [intOf]; omega
    · have hkn : n = k := by omega
      subst hkn
      obtain ⟨w5, hw5⟩ : ∃ w5, w5 = wr := ⟨_, rfl⟩
      subst hw5
      have HG5 := Lib.hid hG
      have HP5 := Lib.hid (HP3.out.below hbr)
      have HQ5 := Lib.hid (HQ3.out.below hbr)
      have hgl5 := hG.lt
      have lq5 := HQ5.out.lt
      have hb5w := hbw
      have HMT := HM.out.take n
      have hMl : (M.take n).length = n := by rw [List.length_take]; omega
      have hsl : (hsN (M.take n)).length = n := by rw [hsN_len, hMl]
      obtain ⟨F, HF, -, -⟩ := HMT.ex
      have hnd := HF.nd
      have hrg : ∀ x ∈ hsN (M.take n), 1 ≤ x ∧ x ≤ h := fun x hx => by
        obtain ⟨s, hs, rfl⟩ := List.mem_map.1 hx
        exact ⟨(HF.on s hs).1, (HF.on s hs).2.1⟩
      have HHL := Lib.hid (fun (W : World) (hb : Below w.heap.size w W) => show Calls Tryd.prog 80 #[.slice A n c] W (fun e w' => ∃ B cb, e = .returned (.slice B n cb) ∧ NatsAt w' B (hsN (M.take n)) ∧ Below W.heap.size W w') from by
        have := holders_any A c (M.take n) W (by rw [← shL_take]; exact (HA.out.below hb).take n) (by omega)
        rw [hMl] at this
        refine this.mono ?_
        rintro e w' ⟨v, rfl, ho, hb2⟩
        obtain ⟨B, cb, rfl, hN, -⟩ := own_sl ho rfl
        rw [hsl]
        exact ⟨B, cb, rfl, hN, hb2⟩)
      have HSS := Lib.hid (And.intro hsl (And.intro hnd hrg))
      clear hG hbw hsz hbr hMl hsl hnd hrg HF HMT HP3 HQ3 HG4 HB4 hgl lq3 HR
      go_wp2_with fail
      go_loopw [18, 89] (fun o i wr => ∃ j : Nat, j ≤ h' ∧ i = .int .i64 j ∧ RowsV (fun b => w5.heap.size ≤ b) wr w5.heap.size o (shL ((movedN p n' h' M rs n).take j)) ∧ Below w5.heap.size w5 wr) (fun _ i _ => h' - (intOf i).toNat)
      case atStart => exact ⟨0, Nat.zero_le _, rfl, RowsV.nil _ _ _, Below.refl _ _⟩
      case round =>
        obtain ⟨j, hj, rfl, hR, hbr⟩ := hrel
        obtain ⟨OA, oc, hv, hRd⟩ := hR.read
        have hlk : (shL ((movedN p n' h' M rs n).take j)).length = j := by rw [shL_len, List.length_take, movedN_len]; omega
        rw [hlk] at hv
        subst hv
        have hsz := hbr.size
        have hbw := below_trans hb5w hbr
        have HRr := Lib.hid hR
        have HLK := Lib.hid hlk
        have HRd := Lib.hid hRd
        clear hR hlk hRd
        by_cases hjl : j < h'
        · have hG := HG5.out.below hbr
          have hgn : (gvnL p n' h' M rs n).length = h' := by simp [gvnL]
          have hgj : (gvnL p n' h' M rs n)[j]'(by rw [hgn]; exact hjl) = givenN p n' h' M rs n j := by simp [gvnL]
          obtain ⟨B1, c1, hv, hX⟩ := hG.at_ (k := j) (by rw [hgn]; exact hjl)
          rw [hgj] at hv hX
          rw [givenN_len] at hv
          obtain ⟨gx, -⟩ := hG.cell hv
          have hPT := given_parts (k := j) (rs := rs) (t := n) (n' := n') (h' := h') HPN.out HM.out hn hjl
          have HJN := Lib.hid (fun (W : World) (hb : Below wr.heap.size wr W) (B : Option Addr) (cb : Nat) (hN : NatsAt W B (hsN (M.take n))) => show Calls Tryd.prog 44 #[planV p n h, planV p n' h', .slice B n cb, .slice B1 n c1] W (NewShrE ((j + 1 : Nat) : Int) (joinV p (wsN p (hsN (M.take n)) 0) (fun i => vN (givenN p n' h' M rs n j) i) n) 0 W) from
            join_made p n h n' h' (j + 1) a.length n B B1 cb c1 (hsN (M.take n)) (givenN p n' h' M rs n j) W HPN.out HPN'.out (HBS.out.below (below_trans hbw hb) HBS.out.1) hN (hX.below hb) HSS.out.2.1 HSS.out.2.2 hPT (by omega) HSS.out.1 (by rw [givenN_len]) (Nat.le_refl _) (by omega))
          have HTK := Lib.hid (movedN_take (p := p) (n' := n') (h' := h') (M := M) (rs := rs) (t := n) hjl)
          generalize joinV p (wsN p (hsN (M.take n)) 0) (fun i => vN (givenN p n' h' M rs n j) i) n = V at *
          have hp5 := HP5.out.below hbr
          have hq5 := HQ5.out.below hbr
          have y0 := hp5.c0
          have y1 := hp5.c1
          have y2 := hp5.c2
          have y3 := hq5.c0
          have y4 := hq5.c1
          have y5 := hq5.c2
          have lzr := hq5.lt
          have lpr : w.heap.size < wr.heap.size := by omega
          have i3 : (0 : Int) ≤ (j : Int) := by omega
          have i4 : (j : Int) < (h' : Int) := by omega
          clear hG hgj hgn hv hX hPT hp5 hq5
          go_wp2_with fail
          go_region_held3 (fun w' => w'.cell? ⟨w.heap.size, 0, none⟩ = some (.int .i64 (p : Int)) ∧ w'.cell? ⟨w.heap.size, 1, none⟩ = some (.int .i64 (n : Int)) ∧ w'.cell? ⟨w.heap.size, 2, none⟩ = some (.int .i64 (h : Int)) ∧ w'.cell? ⟨w.heap.size + 1, 0, none⟩ = some (.int .i64 (p : Int)) ∧ w'.cell? ⟨w.heap.size + 1, 1, none⟩ = some (.int .i64 (n' : Int)) ∧ w'.cell? ⟨w.heap.size + 1, 2, none⟩ = some (.int .i64 (h' : Int))) (first | (go_keep; done) | (exact ⟨keep_set2 (by dsimp only; omega) t0, keep_set2 (by dsimp only; omega) t1, keep_set2 (by dsimp only; omega) t2, keep_set2 (by dsimp only; omega) t3, keep_set2 (by dsimp only; omega) t4, keep_set2 (by dsimp only; omega) t5⟩))
            (first
              | (go_at_call 80; refine (HHL.out _ (below_trans hbw (by (repeat (first | exact bl_refl _ | apply bl_drew | apply bl_alloc))))).mono ?_; rintro e w8 ⟨HB, hcb, rfl, hN8, hb8⟩; (first
                  | (have hb8' : Below wr.heap.size wr w8 := below_undrew1 hb8)
                  | (have hb8A : Below (wr.alloc shO).heap.size (wr.alloc shO) w8 := below_undrew1 hb8; have hb8' : Below wr.heap.size wr w8 := below_trans (below_alloc _ _) hb8A; have HRz := Lib.hid ((ShCell.new (w := wr) 0 (.slice none 0 0) rfl).below hb8A); have fz0 := HRz.out.frozen 0; have fz1 := HRz.out.frozen 1; have rz0 := HRz.out.c0; have rz1 := HRz.out.c1)); have zd := hb8'.size; have s0 := (hb8'.cell (p := ⟨w.heap.size, 0, none⟩) lpr).trans y0; have s1 := (hb8'.cell (p := ⟨w.heap.size, 1, none⟩) lpr).trans y1; have s2 := (hb8'.cell (p := ⟨w.heap.size, 2, none⟩) lpr).trans y2; have s3 := (hb8'.cell (p := ⟨w.heap.size + 1, 0, none⟩) lzr).trans y3; have s4 := (hb8'.cell (p := ⟨w.heap.size + 1, 1, none⟩) lzr).trans y4; have s5 := (hb8'.cell (p := ⟨w.heap.size + 1, 2, none⟩) lzr).trans y5)
              | (go_at_call 44; refine (HJN.out _ (by (repeat (first | exact bl_refl _ | exact hb8' | apply bl_drew | apply bl_alloc))) HB hcb (hN8.below (by (repeat (first | exact bl_refl _ | apply bl_drew | apply bl_alloc))))).mono ?_; rintro e w9 ⟨SAe, sce, rfl, hSe, hOKe, hOffe, hbe⟩; (first
                  | (have HZ := HRz; have hbe' : Below wr.heap.size wr w9 := below_trans hb8' hbe; have HRy := Lib.hid (HRz.out.below hbe); have fy0 := HRy.out.frozen 0; have fy1 := HRy.out.frozen 1; have ry0 := HRy.out.c0; have ry1 := HRy.out.c1)
                  | (have hbeA : Below (w8.alloc shO).heap.size (w8.alloc shO) w9 := hbe; have hbe' : Below wr.heap.size wr w9 := below_trans hb8' (below_trans (below_alloc _ _) hbeA); have HRy := Lib.hid ((ShCell.new (w := w8) 0 (.slice none 0 0) rfl).below hbeA); have fy0 := HRy.out.frozen 0; have fy1 := HRy.out.frozen 1; have ry0 := HRy.out.c0; have ry1 := HRy.out.c1)
                  | (have hbe' : Below wr.heap.size wr w9 := below_trans hb8' hbe)); have t0 := (hbe'.cell (p := ⟨w.heap.size, 0, none⟩) lpr).trans y0; have t1 := (hbe'.cell (p := ⟨w.heap.size, 1, none⟩) lpr).trans y1; have t2 := (hbe'.cell (p := ⟨w.heap.size, 2, none⟩) lpr).trans y2; have t3 := (hbe'.cell (p := ⟨w.heap.size + 1, 0, none⟩) lzr).trans y3; have t4 := (hbe'.cell (p := ⟨w.heap.size + 1, 1, none⟩) lzr).trans y4; have t5 := (hbe'.cell (p := ⟨w.heap.size + 1, 2, none⟩) lzr).trans y5))
          all_goals refine gen_last fun wf hwf => ?_
          · have hN9 : ShNew wr wf w9.heap.size ((j : Int) + 1) SAe sce V := hwf ▸ ShNew.late hbe' hSe hOKe (fun b off e => by have := hOffe b off e; omega)
            obtain ⟨g, hg⟩ : ∃ g, g = w9.heap.size := ⟨_, rfl⟩
            rw [← hg] at hN9 ⊢
            clear hg hwf
            have g0 := hN9.cell.c0
            have g1 := hN9.cell.c1
            have lg := hN9.cell.lt
            have HN9 := Lib.hid hN9
            have hz9 := hN9.below.size
            obtain ⟨W, hW⟩ : ∃ W, W = wf.alloc (.cells #[.int .i64 ((j : Int) + 1), .slice SAe V.length sce] 53) := ⟨_, rfl⟩
            have hbW : Below wr.heap.size wr W := by rw [hW]; exact bl_alloc _ hN9.below
            have hWz : wf.heap.size ≤ W.heap.size := by rw [hW]; exact (below_alloc _ _).size
            obtain ⟨H, e1, e2, e3⟩ := (HRr.out.below hbW).ex
            have HE3 := Lib.hid (And.intro e1 (And.intro e2 e3))
            have hHl : H.length ≤ 100000 := by rw [e2, HLK.out]; omega
            clear e2 e3 hN9 hOffe hSe hOKe
            subst hW
            go_wp2_with (at_builtin; refine app_hv rfl (.tmp 105) (.tmp 107) rfl (base := w5.heap.size) (H := H) (v := .slice OA j oc) (((j : Int) + 1), .slice SAe V.length sce) rfl e1 rfl (heap_alloc_new _ _) rfl (by omega) (by omega) ?_; intro v4 wg hown4 hg4 hb4 hv4)
            have HB4 := Lib.hid (hbr.trans ((hbW.mono hsz).trans hb4))
            have HR4 := Lib.hid (RowsV.put (x := j + 1) HRr.out HN9.out hsz rfl HE3.out hown4 hg4 hv4 HTK.out)
            clear hown4 hg4 hv4 e1
            go_roundw
            case rel => exact ⟨j + 1, by omega, by go_num, HR4.out, HB4.out⟩
            case measure => simp [intOf]; omega
          · have hN9 : ShNew wr wf w8.heap.size ((j : Int) + 1) SAe sce V := hwf ▸ ShNew.early (ShCell.new (w := w8) 0 (.slice none 0 0) rfl) zd (bl_alloc _ hb8') hbe hSe hOKe hOffe
            obtain ⟨g, hg⟩ : ∃ g, g = w8.heap.size := ⟨_, rfl⟩
            rw [← hg] at hN9 ⊢
            clear hg hwf
            have g0 := hN9.cell.c0
            have g1 := hN9.cell.c1
            have lg := hN9.cell.lt
            have HN9 := Lib.hid hN9
            have hz9 := hN9.below.size
            obtain ⟨W, hW⟩ : ∃ W, W = wf.alloc (.cells #[.int .i64 ((j : Int) + 1), .slice SAe V.length sce] 53) := ⟨_, rfl⟩
            have hbW : Below wr.heap.size wr W := by rw [hW]; exact bl_alloc _ hN9.below
            have hWz : wf.heap.size ≤ W.heap.size := by rw [hW]; exact (below_alloc _ _).size
            obtain ⟨H, e1, e2, e3⟩ := (HRr.out.below hbW).ex
            have HE3 := Lib.hid (And.intro e1 (And.intro e2 e3))
            have hHl : H.length ≤ 100000 := by rw [e2, HLK.out]; omega
            clear e2 e3 hN9 hOffe hSe hOKe
            subst hW
            go_wp2_with (at_builtin; refine app_hv rfl (.tmp 105) (.tmp 107) rfl (base := w5.heap.size) (H := H) (v := .slice OA j oc) (((j : Int) + 1), .slice SAe V.length sce) rfl e1 rfl (heap_alloc_new _ _) rfl (by omega) (by omega) ?_; intro v4 wg hown4 hg4 hb4 hv4)
            have HB4 := Lib.hid (hbr.trans ((hbW.mono hsz).trans hb4))
            have HR4 := Lib.hid (RowsV.put (x := j + 1) HRr.out HN9.out hsz rfl HE3.out hown4 hg4 hv4 HTK.out)
            clear hown4 hg4 hv4 e1
            go_roundw
            case rel => exact ⟨j + 1, by omega, by go_num, HR4.out, HB4.out⟩
            case measure => simp [intOf]; omega
          · have hN9 : ShNew wr wf wr.heap.size ((j : Int) + 1) SAe sce V := hwf ▸ ShNew.early HRz.out (Nat.le_refl _) hb8' hbe hSe hOKe hOffe
            obtain ⟨g, hg⟩ : ∃ g, g = wr.heap.size := ⟨_, rfl⟩
            rw [← hg] at hN9 ⊢
            clear hg hwf
            have g0 := hN9.cell.c0
            have g1 := hN9.cell.c1
            have lg := hN9.cell.lt
            have HN9 := Lib.hid hN9
            have hz9 := hN9.below.size
            obtain ⟨W, hW⟩ : ∃ W, W = wf.alloc (.cells #[.int .i64 ((j : Int) + 1), .slice SAe V.length sce] 53) := ⟨_, rfl⟩
            have hbW : Below wr.heap.size wr W := by rw [hW]; exact bl_alloc _ hN9.below
            have hWz : wf.heap.size ≤ W.heap.size := by rw [hW]; exact (below_alloc _ _).size
            obtain ⟨H, e1, e2, e3⟩ := (HRr.out.below hbW).ex
            have HE3 := Lib.hid (And.intro e1 (And.intro e2 e3))
            have hHl : H.length ≤ 100000 := by rw [e2, HLK.out]; omega
            clear e2 e3 hN9 hOffe hSe hOKe
            subst hW
            go_wp2_with (at_builtin; refine app_hv rfl (.tmp 105) (.tmp 107) rfl (base := w5.heap.size) (H := H) (v := .slice OA j oc) (((j : Int) + 1), .slice SAe V.length sce) rfl e1 rfl (heap_alloc_new _ _) rfl (by omega) (by omega) ?_; intro v4 wg hown4 hg4 hb4 hv4)
            have HB4 := Lib.hid (hbr.trans ((hbW.mono hsz).trans hb4))
            have HR4 := Lib.hid (RowsV.put (x := j + 1) HRr.out HN9.out hsz rfl HE3.out hown4 hg4 hv4 HTK.out)
            clear hown4 hg4 hv4 e1
            go_roundw
            case rel => exact ⟨j + 1, by omega, by go_num, HR4.out, HB4.out⟩
            case measure => simp [intOf]; omega
        · obtain rfl : j = h' := by omega
          have hX := HRd.out
          rw [List.take_of_length_le (by rw [movedN_len]; exact Nat.le_refl _)] at hX
          have hz6 := hb5w.size
          have HX := Lib.hid (hX.mono (Q := fun b => w.heap.size ≤ b) (fun b _ hb => by omega))
          clear hX
          go_wp2_with fail
          go_ret2
          exact ⟨OA, oc, rfl, HX.out, hbw⟩
end Go.Proofs.YtlhipgejiacklaaDoor
namespace Go.Proofs.YtlhipgejiacklaaDoor
open Go.RowKit
attribute [local go_sem high] sliced_low

theorem elems_new {D n p : Nat} {w w' : World} {e : Ending} (h : ElemsP D n p w e w') :
    ∃ A c L R', e = .returned (.slice A L.length c) ∧ L.length = n ∧ (∀ x ∈ L, x < p) ∧ SlOK A c L ∧ IntsP (fun b => w.heap.size ≤ b) w' A c (ofN L) ∧ DiceAt w' D R' ∧ w.grownBy w' (some D) := by
  obtain ⟨v, L, R', rfl, hL, hp, hown, hd, hg⟩ := h
  obtain ⟨A, c, rfl, h1, h2, h3⟩ := own_sl hown rfl
  exact ⟨A, c, L, R', rfl, hL, hp, h2, ⟨h1.ints, by rw [len_ofN]; exact h2.iok, fun b off e => .inr (h3 b off e).1⟩, hd, hg⟩
theorem rands_of {p n' m t : Nat} {rs : List (List Nat)} (ht : t ≤ rs.length) (h : ∀ r ∈ rs, r.length = m * (n' - 1) ∧ ∀ x ∈ r, x < p) : Rands p n' m t rs := by
  have key : ∀ i, i < t → rs.getD i [] ∈ rs := fun i hi => by
    rw [List.getD_eq_getElem?_getD, List.getElem?_eq_getElem (show i < rs.length by omega)]
    exact List.getElem_mem _
  exact ⟨fun i hi => (h _ (key i hi)).1, fun i hi => (h _ (key i hi)).2⟩
theorem lst_two {W : World} {g a b : Nat} {X Y : List Nat} (hg : W.heap[g]? = some (.cells #[.slice (some ⟨a, 0, none⟩) X.length X.length, .slice (some ⟨b, 0, none⟩) Y.length Y.length] 22 (0, 0))) (ha : NatBlk W a X) (hb : NatBlk W b Y) (hx : X.length ≤ 100) (hy : Y.length ≤ 100) :
    LstP (fun _ => True) W (some ⟨g, 0, none⟩) 2 [X, Y] := by
  have hlt := blk_lt hg
  have sa := SlOK.own ha (by unfold maxLen; omega)
  have sb := SlOK.own hb (by unfold maxLen; omega)
  refine ⟨fun k hk => ?_, ⟨by simp, by unfold maxLen; omega, (fun e => by cases e), .inr (fun a e => by injection e with e; subst e; rfl)⟩⟩
  have : k = 0 ∨ k = 1 := by simp at hk; omega
  rcases this with rfl | rfl
  · exact ⟨g, 0, some ⟨a, 0, none⟩, X.length, rfl, hlt, trivial, by rw [cell_of_row W g _ _ _ (0, 0) hg]; rfl, sa, ⟨ha.nats.ints, by rw [len_ofN]; exact sa.iok, fun _ _ _ => .inr trivial⟩⟩
  · exact ⟨g, 0, some ⟨b, 0, none⟩, Y.length, rfl, hlt, trivial, by rw [cell_of_row W g _ _ _ (0, 0) hg]; rfl, sb, ⟨hb.nats.ints, by rw [len_ofN]; exact sb.iok, fun _ _ _ => .inr trivial⟩⟩
theorem heap_at (w : World) (o : Obj) (g : Nat) (h : g = w.heap.size) : (w.alloc o).heap[g]? = some o := by subst h; exact heap_alloc_new w o
theorem lit2_at (w : World) (g x y : Nat) (h : g = w.heap.size) : NatBlk (w.alloc (.cells #[.int .i64 (x : Int), .int .i64 (y : Int)] 3)) g [x, y] := by subst h; exact lit2_nats w x y
theorem plan_1123 : PlanN 11 2 3 := PlanN.mk' prime_11 (by omega) (by omega) (by omega) (by omega) (by omega)
theorem plan_1135 : PlanN 11 3 5 := PlanN.mk' prime_11 (by omega) (by omega) (by omega) (by omega) (by omega)
def mbN : List ShN := dealN 11 2 3 [7] [4]
theorem mb_full : Full 11 2 3 [7] mbN := Full.deal plan_1123 (by simp) (by simp)
theorem Part.drop (N : List ShN) (k : Nat) : Part (N.drop k) N := ⟨N.drop k ++ N.take k, List.perm_append_comm.trans (by rw [List.take_append_drop]), (List.take_left).symm⟩
theorem mb_made : Made 11 2 3 [7] (mbN.drop 1) := mb_full.made.part (Part.drop _ _)
theorem mb_len : (mbN.drop 1).length = 2 := by rw [List.length_drop, mb_full.len]
def mvN : List ShN := movedN 11 3 5 (mbN.drop 1) [[1, 2], [3, 4]] 2
theorem mv_rands : Rands 11 3 ([7] : List Nat).length 2 [[1, 2], [3, 4]] := rands_of (by simp) (by
  intro r hr
  simp at hr
  rcases hr with rfl | rfl <;> exact ⟨rfl, by simp⟩)
theorem mv_full : Full 11 3 5 [7] mvN := moved_full plan_1123 plan_1135 mb_made (by simp) (Nat.le_refl _) (by rw [mb_len]; omega) mv_rands

set_option maxRecDepth 100000 in
set_option maxHeartbeats 4000000 in
theorem awake9 (w : World) (hB : Bases w) : Calls Tryd.prog 40 #[] w (RetB (.bool true) w) := by
  have HD := Lib.hid (fun (W : World) (A B : Option Addr) (h1 : NatsAt W A [7]) (h2 : NatsAt W B [4]) (h3 : SlOK B 1 [4]) => show Calls Tryd.prog 31 #[planV 11 2 3, .slice A 1 1, .slice B 1 1] W (DealR mbN 3 W) from
    refDeal_made plan_1123 h1 h2 h3 (by simp) (by simp) (by simp) (by simp) (by simp) (by simp) (by simp))
  have HMV := Lib.hid (fun (W : World) (h0 : Below w.heap.size w W) (A B : Option Addr) (ca cb : Nat) (P P' : Nat → Prop) (h1 : ShP P W A ca (shL (mbN.drop 1))) (h2 : LstP P' W B cb [[1, 2], [3, 4]]) => show Calls Tryd.prog 46 #[planV 11 2 3, planV 11 3 5, .slice A 2 ca, .slice B 2 cb] W (DealR mvN 5 W) from
    move_made (P := P) (P' := P') 11 2 3 3 5 A B ca cb 2 2 [7] (mbN.drop 1) [[1, 2], [3, 4]] W plan_1123 plan_1135 (hB.below h0 hB.1) mb_made (by simp) h1 h2 (by rw [mb_len]; omega) (by rw [mb_len]; omega) mb_len.symm (by simp) (by simp) (by simp) mv_rands)
  have HCO := Lib.hid (fun (W : World) (A : Option Addr) (ca : Nat) (P : Nat → Prop) (h1 : ShP P W A ca (shL mvN)) => show Calls Tryd.prog 27 #[planV 11 3 5, .slice A 5 ca] W (ListErr [7] 0 W) from
    refCombine_made mv_full.made plan_1135 A ca 5 W h1 (by simp) (by rw [mv_full.len]; omega) mv_full.len.symm (by rw [mv_full.len]; omega))
  clear hB
  go_enter Tryd.func40, Tryd.ntmps40
  go_wp2_with fail
  refine gen_calls fun w1 hw1 => ?_
  have hP1 : PlanCell w1 w.heap.size 11 2 3 := by rw [hw1]; exact (((PlanCell.new _ _ _ rfl).alloc _).alloc _).alloc _
  have hQ1 : PlanCell w1 (w.heap.size + 1) 11 3 5 := by rw [hw1]; exact ((PlanCell.new _ _ _ (by simp)).alloc _).alloc _
  have hn3 : NatBlk w1 (w.heap.size + 1 + 1) [7] := by rw [hw1]; exact (lit1_at _ _ _ (by simp)).below (below_alloc _ _)
  have hn4 : NatBlk w1 (w.heap.size + 1 + 1 + 1) [4] := by rw [hw1]; exact lit1_at _ _ _ (by simp)
  have hb1 : Below w.heap.size w w1 := by rw [hw1]; exact bl_alloc _ (bl_alloc _ (bl_alloc _ (below_alloc _ _)))
  clear hw1
  refine (HD.out _ _ _ hn3.nats hn4.nats (SlOK.own hn4 (by unfold maxLen; simp))).mono ?_
  rintro e w2 ⟨LA, lc, rfl, hL, hb2⟩
  have hb2w := below_trans hb1 hb2
  have HP2 := Lib.hid (hP1.below hb2)
  have HQ2 := Lib.hid (hQ1.below hb2)
  have p0 := HP2.out.c0
  have p1 := HP2.out.c1
  have p2 := HP2.out.c2
  have q0 := HQ2.out.c0
  have q1 := HQ2.out.c1
  have q2 := HQ2.out.c2
  obtain ⟨lb, lo, B0, c0', rfl, -⟩ := hL.nat (show 0 < mbN.length by rw [mb_full.len]; omega)
  have hlc := hL.cap
  rw [mb_full.len] at hlc
  have HLD := Lib.hid (hL.drop (show 1 < mbN.length by rw [mb_full.len]; omega)).any
  have hlc2 : (3 : Int) ≤ (lc : Int) := by omega
  have hlc1 : ¬ lc = 1 := by omega
  have lq2 := HQ2.out.lt
  have lp2 := HP2.out.lt
  clear hP1 hQ1 hn3 hn4 hb1 hb2 hL
  go_wp2_with fail
  go_region_held3 (fun w' => w'.cell? ⟨w.heap.size, 0, none⟩ = some (.int .i64 11) ∧ w'.cell? ⟨w.heap.size, 1, none⟩ = some (.int .i64 2) ∧ w'.cell? ⟨w.heap.size, 2, none⟩ = some (.int .i64 3) ∧ w'.cell? ⟨w.heap.size + 1, 0, none⟩ = some (.int .i64 11) ∧ w'.cell? ⟨w.heap.size + 1, 1, none⟩ = some (.int .i64 3) ∧ w'.cell? ⟨w.heap.size + 1, 2, none⟩ = some (.int .i64 5)) (first | (go_keep; done) | exact ⟨(Below.cell (w := w2) (p := ⟨w.heap.size, 0, none⟩) (by (repeat (first | exact bl_refl _ | apply bl_drew | apply bl_alloc))) lp2).trans p0, (Below.cell (w := w2) (p := ⟨w.heap.size, 1, none⟩) (by (repeat (first | exact bl_refl _ | apply bl_drew | apply bl_alloc))) lp2).trans p1, (Below.cell (w := w2) (p := ⟨w.heap.size, 2, none⟩) (by (repeat (first | exact bl_refl _ | apply bl_drew | apply bl_alloc))) lp2).trans p2, (Below.cell (w := w2) (p := ⟨w.heap.size + 1, 0, none⟩) (by (repeat (first | exact bl_refl _ | apply bl_drew | apply bl_alloc))) lq2).trans q0, (Below.cell (w := w2) (p := ⟨w.heap.size + 1, 1, none⟩) (by (repeat (first | exact bl_refl _ | apply bl_drew | apply bl_alloc))) lq2).trans q1, (Below.cell (w := w2) (p := ⟨w.heap.size + 1, 2, none⟩) (by (repeat (first | exact bl_refl _ | apply bl_drew | apply bl_alloc))) lq2).trans q2⟩)
    (first
      | (go_at_call 46; (try rw [if_neg hlc1]); have hbW : Below w2.heap.size w2 _ := (by (repeat (first | exact bl_refl _ | apply bl_drew | apply bl_alloc)) : Below w2.heap.size w2 (((w2.alloc (.cells #[.int .i64 1, .int .i64 2] 3)).alloc (.cells #[.int .i64 3, .int .i64 4] 3)).alloc (.cells #[.slice (some ⟨w2.heap.size, 0, none⟩) 2 2, .slice (some ⟨w2.heap.size + 1, 0, none⟩) 2 2] 22)).drew); refine (HMV.out _ (below_trans hb2w hbW) _ _ _ _ _ _ (HLD.out.below hbW) (((lst_two (W := ((w2.alloc (.cells #[.int .i64 1, .int .i64 2] 3)).alloc (.cells #[.int .i64 3, .int .i64 4] 3)).alloc (.cells #[.slice (some ⟨w2.heap.size, 0, none⟩) 2 2, .slice (some ⟨w2.heap.size + 1, 0, none⟩) 2 2] 22)) (a := w2.heap.size) (b := w2.heap.size + 1) (X := [1, 2]) (Y := [3, 4]) (g := w2.heap.size + 1 + 1) (heap_at _ _ _ (by simp)) (((lit2_nats w2 1 2).below (below_alloc _ _)).below (below_alloc _ _)) ((lit2_at _ _ _ _ (by simp)).below (below_alloc _ _)) (by simp) (by simp)).below (below_drewT _)))).mono ?_; rintro e w3 ⟨MA, mc, rfl, hM, hb3⟩; have hb3' : Below w2.heap.size w2 w3 := below_trans hbW hb3; have t0 := (hb3'.cell (p := ⟨w.heap.size, 0, none⟩) lp2).trans p0; have t1 := (hb3'.cell (p := ⟨w.heap.size, 1, none⟩) lp2).trans p1; have t2 := (hb3'.cell (p := ⟨w.heap.size, 2, none⟩) lp2).trans p2; have t3 := (hb3'.cell (p := ⟨w.heap.size + 1, 0, none⟩) lq2).trans q0; have t4 := (hb3'.cell (p := ⟨w.heap.size + 1, 1, none⟩) lq2).trans q1; have t5 := (hb3'.cell (p := ⟨w.heap.size + 1, 2, none⟩) lq2).trans q2)
      | (go_at_call 46; (try rw [if_neg hlc1]); have hbW : Below w2.heap.size w2 _ := (by (repeat (first | exact bl_refl _ | apply bl_drew | apply bl_alloc)) : Below w2.heap.size w2 (((w2.alloc (.cells #[.int .i64 3, .int .i64 4] 3)).alloc (.cells #[.int .i64 1, .int .i64 2] 3)).alloc (.cells #[.slice (some ⟨w2.heap.size + 1, 0, none⟩) 2 2, .slice (some ⟨w2.heap.size, 0, none⟩) 2 2] 22)).drew); refine (HMV.out _ (below_trans hb2w hbW) _ _ _ _ _ _ (HLD.out.below hbW) (((lst_two (W := ((w2.alloc (.cells #[.int .i64 3, .int .i64 4] 3)).alloc (.cells #[.int .i64 1, .int .i64 2] 3)).alloc (.cells #[.slice (some ⟨w2.heap.size + 1, 0, none⟩) 2 2, .slice (some ⟨w2.heap.size, 0, none⟩) 2 2] 22)) (a := w2.heap.size + 1) (b := w2.heap.size) (X := [1, 2]) (Y := [3, 4]) (g := w2.heap.size + 1 + 1) (heap_at _ _ _ (by simp)) ((lit2_at _ _ _ _ (by simp)).below (below_alloc _ _)) (((lit2_nats w2 3 4).below (below_alloc _ _)).below (below_alloc _ _)) (by simp) (by simp)).below (below_drewT _)))).mono ?_; rintro e w3 ⟨MA, mc, rfl, hM, hb3⟩; have hb3' : Below w2.heap.size w2 w3 := below_trans hbW hb3; have t0 := (hb3'.cell (p := ⟨w.heap.size, 0, none⟩) lp2).trans p0; have t1 := (hb3'.cell (p := ⟨w.heap.size, 1, none⟩) lp2).trans p1; have t2 := (hb3'.cell (p := ⟨w.heap.size, 2, none⟩) lp2).trans p2; have t3 := (hb3'.cell (p := ⟨w.heap.size + 1, 0, none⟩) lq2).trans q0; have t4 := (hb3'.cell (p := ⟨w.heap.size + 1, 1, none⟩) lq2).trans q1; have t5 := (hb3'.cell (p := ⟨w.heap.size + 1, 2, none⟩) lq2).trans q2))
  all_goals
    have hb3w := below_trans hb2w hb3'
    have HM3 := Lib.hid hM
    have HP3 := Lib.hid (HP2.out.below hb3')
    have HQ3 := Lib.hid (HQ2.out.below hb3')
    clear hM
    go_wp2_with fail
    refine (HCO.out _ _ _ _ HM3.out).mono ?_
    rintro e w4 ⟨XA, xc, rfl, hX, -, -, hb4⟩
    obtain ⟨xb, xo, rfl, hxl, x0⟩ := hX 0 (by simp)
    simp [nthN] at x0
    have hb4w := below_trans hb3w hb4
    clear hX
    go_wp2_with fail
    go_ret
    exact RetB.bool rfl hb4w
end Go.Proofs.YtlhipgejiacklaaDoor
namespace Go.Proofs.YtlhipgejiacklaaDoor
open Go.RowKit

theorem nodup_le : ∀ {A B : List Nat}, A.Nodup → (∀ x ∈ A, x ∈ B) → A.length ≤ B.length
  | [], B, _, _ => Nat.zero_le _
  | a :: A, B, hn, hs => by
    have ha : a ∈ B := hs a (by simp)
    have h1 := (List.nodup_cons.1 hn)
    have ih := nodup_le (A := A) (B := B.erase a) h1.2 (fun x hx => (List.mem_erase_of_ne (fun e => h1.1 (by rw [← e]; exact hx))).2 (hs x (by simp [hx])))
    rw [List.length_erase_of_mem ha] at ih
    have := List.length_pos_of_mem ha
    simp; omega

/-- The holders among 1 .. k that are not known. -/
def fillN (hs : List Nat) : Nat → List Nat
  | 0 => []
  | k + 1 => if (k + 1) ∈ hs then fillN hs k else fillN hs k ++ [k + 1]
theorem fill_held {hs : List Nat} {k : Nat} (h : (k + 1) ∈ hs) : fillN hs (k + 1) = fillN hs k := if_pos h
theorem fill_new {hs : List Nat} {k : Nat} (h : ¬ (k + 1) ∈ hs) : fillN hs (k + 1) = fillN hs k ++ [k + 1] := if_neg h
theorem fill_mem {hs : List Nat} {x : Nat} : ∀ {k : Nat}, x ∈ fillN hs k → 1 ≤ x ∧ x ≤ k ∧ x ∉ hs
  | 0, h => by simp [fillN] at h
  | k + 1, h => by
    by_cases hk : (k + 1) ∈ hs
    · rw [fill_held hk] at h
      have := fill_mem h
      exact ⟨this.1, by omega, this.2.2⟩
    · rw [fill_new hk] at h
      rcases List.mem_append.1 h with h | h
      · have := fill_mem h
        exact ⟨this.1, by omega, this.2.2⟩
      · simp at h; subst h; exact ⟨by omega, by omega, hk⟩
theorem fill_nodup (hs : List Nat) : ∀ k, (fillN hs k).Nodup
  | 0 => by simp [fillN]
  | k + 1 => by
    by_cases hk : (k + 1) ∈ hs
    · rw [fill_held hk]; exact fill_nodup hs k
    · rw [fill_new hk]
      refine List.nodup_append.2 ⟨fill_nodup hs k, by simp, fun a ha b hb => ?_⟩
      simp at hb; subst hb
      have := fill_mem ha
      omega
theorem fill_all (hs : List Nat) : ∀ k x, 1 ≤ x → x ≤ k → x ∉ hs → x ∈ fillN hs k
  | 0, x, h1, h2, _ => by omega
  | k + 1, x, h1, h2, h3 => by
    by_cases hx : x = k + 1
    · subst hx; rw [fill_new h3]; simp
    · have := fill_all hs k x h1 (by omega) h3
      by_cases hk : (k + 1) ∈ hs
      · rw [fill_held hk]; exact this
      · rw [fill_new hk]; exact List.mem_append_left _ this
theorem fill_many (hs : List Nat) (k : Nat) : k ≤ (fillN hs k).length + hs.length := by
  have h := nodup_le (A := (List.range k).map (· + 1)) (B := fillN hs k ++ hs) (List.Pairwise.map _ (fun a b h => by omega) (List.nodup_range (n := k))) (fun x hx => by
    obtain ⟨y, hy, rfl⟩ := List.mem_map.1 hx
    have := List.mem_range.1 hy
    by_cases h : (y + 1) ∈ hs
    · exact List.mem_append_right _ h
    · exact List.mem_append_left _ (fill_all hs k _ (by omega) (by omega) h))
  simpa using h

/-- The shares of all holders on the polynomials through given points. -/
def exF (p : Nat) (X : List Nat) (Y : Nat → List Nat) (e : Nat) : List Nat := (nwN p X (Y e) X.length).1
def exN (p h m : Nat) (X : List Nat) (Y : Nat → List Nat) : List ShN := (List.range h).map fun j => (j + 1, (List.range m).map fun e => evN p (exF p X Y e) (j + 1))
theorem exN_len (p h m : Nat) (X : List Nat) (Y : Nat → List Nat) : (exN p h m X Y).length = h := by simp [exN]
theorem exN_at {p h m : Nat} {X : List Nat} {Y : Nat → List Nat} {j : Nat} (hj : j < h) : hN (exN p h m X Y) j = j + 1 ∧ vN (exN p h m X Y) j = (List.range m).map fun e => evN p (exF p X Y e) (j + 1) := by
  simp [exN, hN, vN, List.getD_eq_getElem?_getD, hj]
theorem exF_at {p : Nat} (hp : PrimeN p) {X : List Nat} (hx : ∀ y ∈ X, y < p) (hn : X.Nodup) {Y : Nat → List Nat} {e : Nat} (hy : ∀ y ∈ Y e, y < p) {j : Nat} (hj : j < X.length) : evN p (exF p X Y e) (nthN X j) = nthN (Y e) j := by
  have hp1 : 1 ≤ p := by have := hp.1; omega
  refine Cg.nat (p := p) ?_ (evN_lt hp1 _ _) (nthN_lt hp1 hy j)
  exact (cg_ev p _ _).trans (nwN_at hp hx hn hy X.length (Nat.le_refl _) j hj)
theorem ex_full {p n h m : Nat} (P : PlanN p n h) {X : List Nat} (hx : ∀ y ∈ X, y < p) (hn : X.Nodup) (hl : X.length ≤ n) {Y : Nat → List Nat} {sec : List Nat} (hm : sec.length = m) (hy : ∀ e, e < m → ∀ y ∈ Y e, y < p) {i0 : Nat} (h0 : i0 < X.length) (hx0 : nthN X i0 = 0)
    (hy0 : ∀ e, e < m → nthN (Y e) i0 = nthN sec e) : Full p n h sec (exN p h m X Y) := by
  subst hm
  refine ⟨⟨exF p X Y, ⟨fun s hs => ?_, nodup_hsN fun k hk j hj => ?_⟩, fun e he => ?_, ?_⟩, fun k hk => ?_, exN_len _ _ _ _ _⟩
  · obtain ⟨k, hk, rfl⟩ := shl_mem hs
    rw [exN_len] at hk
    rw [(exN_at hk).1, (exN_at hk).2]
    exact ⟨by omega, by omega, rfl⟩
  · rw [exN_len] at hk
    rw [(exN_at hk).1, (exN_at (show j < h by omega)).1]; omega
  · have := (nwN_len p X (Y e) X.length).1
    exact Nat.le_trans this hl
  · refine extN (by simp) fun e he => ?_
    have he : e < sec.length := by simpa using he
    rw [nthN_eq (by simpa using he)]
    simp only [List.getElem_map, List.getElem_range]
    rw [← hy0 e he, ← hx0]
    exact exF_at P.pr hx hn (hy e he) h0
  · rw [exN_len] at hk
    exact (exN_at hk).1
/-- The value between the points is the polynomial's. -/
theorem ex_itV {p : Nat} (hp : PrimeN p) {X : List Nat} (hx : ∀ y ∈ X, y < p) (hn : X.Nodup) (hl : 0 < X.length) {Y : Nat → List Nat} {e : Nat} (hy : ∀ y ∈ Y e, y < p) (hyl : (Y e).length = X.length) (x : Nat) : itE X (Y e) = 0 ∧ itV p X (Y e) x = evN p (exF p X Y e) x := by
  have h0 : itE X (Y e) = 0 := by rw [itE_len hyl.symm, ckE_ok (by omega) hn]
  refine ⟨h0, ?_⟩
  rw [itV_ok h0]
  exact interpN hp hx hn (nwN_len p X (Y e) X.length).1 (fun i hi => (exF_at hp hx hn hy hi).symm) x

/-- The document's points: known holders, 0, and as many others as are needed. -/
def exX (hs : List Nat) (k : Nat) : List Nat := hs ++ [0] ++ fillN hs k
def exY (K : List ShN) (sec : List Nat) (c : Nat) (e : Nat) : List Nat := colN K e ++ [nthN sec e] ++ List.replicate c 0
theorem exX_len (hs : List Nat) (k : Nat) : (exX hs k).length = hs.length + 1 + (fillN hs k).length := by simp [exX]; omega
theorem exY_len (K : List ShN) (sec : List Nat) (c e : Nat) : (exY K sec c e).length = K.length + 1 + c := by simp [exY, colN]; omega
theorem exX_nodup {hs : List Nat} (h : hs.Nodup) (h0 : 0 ∉ hs) (k : Nat) : (exX hs k).Nodup := by
  unfold exX
  refine List.nodup_append.2 ⟨List.nodup_append.2 ⟨h, by simp, fun a ha b hb => ?_⟩, fill_nodup hs k, fun a ha b hb => ?_⟩
  · simp at hb; subst hb; intro e; exact h0 (e ▸ ha)
  · have hb := fill_mem hb
    rcases List.mem_append.1 ha with ha | ha
    · intro e; exact hb.2.2 (e ▸ ha)
    · simp at ha; subst ha; omega
theorem exX_lt {hs : List Nat} {k p : Nat} (h : ∀ x ∈ hs, x < p) (hk : k < p) : ∀ x ∈ exX hs k, x < p := fun x hx => by
  unfold exX at hx
  rcases List.mem_append.1 hx with hx | hx
  · rcases List.mem_append.1 hx with hx | hx
    · exact h x hx
    · simp at hx; subst hx; omega
  · have := fill_mem hx; omega
theorem exY_lt {K : List ShN} {sec : List Nat} {c e p : Nat} (hp : 1 ≤ p) (hK : ∀ k, k < K.length → ∀ x ∈ vN K k, x < p) (hs : ∀ x ∈ sec, x < p) : ∀ y ∈ exY K sec c e, y < p := fun y hy => by
  unfold exY at hy
  rcases List.mem_append.1 hy with hy | hy
  · rcases List.mem_append.1 hy with hy | hy
    · obtain ⟨s, hs, rfl⟩ := List.mem_map.1 hy
      obtain ⟨k, hk, rfl⟩ := shl_mem hs
      exact nthN_lt hp (hK k hk) e
    · simp at hy; subst hy; exact nthN_lt hp hs e
  · rw [List.eq_of_mem_replicate hy]; omega
theorem exX_zero (hs : List Nat) (k : Nat) : nthN (exX hs k) hs.length = 0 := by
  simp [nthN, exX, List.getD_eq_getElem?_getD]
theorem exY_zero (K : List ShN) (sec : List Nat) (c e : Nat) : nthN (exY K sec c e) K.length = nthN sec e := by
  simp [nthN, exY, colN, List.getD_eq_getElem?_getD]
/-- What the document's Explain says of good known shares. -/
def explN (p h : Nat) (K : List ShN) (sec : List Nat) (k : Nat) : List ShN := exN p h sec.length (exX (hsN K) k) (exY K sec (fillN (hsN K) k).length)
theorem hs_rng {p h : Nat} {K : List ShN} (hg : GoodN p h K) : ∀ x ∈ hsN K, 1 ≤ x ∧ x ≤ h := fun x hx => by
  obtain ⟨s, hs, rfl⟩ := List.mem_map.1 hx
  obtain ⟨k, hk, rfl⟩ := shl_mem hs
  exact ⟨(hg.rng k hk).1, (hg.rng k hk).2.1⟩
theorem expl_full {p n h k : Nat} {K : List ShN} {sec : List Nat} (P : PlanN p n h) (hg : GoodN p h K) (hs : ∀ x ∈ sec, x < p) (hk : k < p) (hl : K.length + 1 + (fillN (hsN K) k).length = n) : Full p n h sec (explN p h K sec k) := by
  have hr := hs_rng hg
  refine ex_full P (i0 := (hsN K).length) (exX_lt (fun x hx => by have := hr x hx; have := P.hp; omega) hk) (exX_nodup hg.nd (fun h0 => by have := hr 0 h0; omega) k) (by rw [exX_len, hsN_len]; omega) rfl (fun e _ => exY_lt P.p1 (fun j hj => (hg.rng j hj).2.2) hs) (by rw [exX_len]; omega) (exX_zero _ _) (fun e _ => by rw [hsN_len]; exact exY_zero _ _ _ _)
theorem expl_it {p n h k : Nat} {K : List ShN} {sec : List Nat} (P : PlanN p n h) (hg : GoodN p h K) (hs : ∀ x ∈ sec, x < p) (hk : k < p) (e x : Nat) :
    itE (exX (hsN K) k) (exY K sec (fillN (hsN K) k).length e) = 0 ∧ itV p (exX (hsN K) k) (exY K sec (fillN (hsN K) k).length e) x = evN p (exF p (exX (hsN K) k) (exY K sec (fillN (hsN K) k).length) e) x := by
  have hr := hs_rng hg
  exact ex_itV P.pr (exX_lt (fun x hx => by have := hr x hx; have := P.hp; omega) hk) (exX_nodup hg.nd (fun h0 => by have := hr 0 h0; omega) k) (by rw [exX_len]; omega) (exY_lt P.p1 (fun j hj => (hg.rng j hj).2.2) hs) (by rw [exX_len, exY_len, hsN_len]) x
end Go.Proofs.YtlhipgejiacklaaDoor
namespace Go.Proofs.YtlhipgejiacklaaDoor
open Go.RowKit

theorem fill_pre (hs : List Nat) (k : Nat) : ∀ d, ∃ T, fillN hs (k + d) = fillN hs k ++ T
  | 0 => ⟨[], by simp⟩
  | d + 1 => by
    obtain ⟨T, hT⟩ := fill_pre hs k d
    by_cases h : (k + d + 1) ∈ hs
    · exact ⟨T, by rw [show k + (d + 1) = k + d + 1 from rfl, fill_held h, hT]⟩
    · exact ⟨T ++ [k + d + 1], by rw [show k + (d + 1) = k + d + 1 from rfl, fill_new h, hT, List.append_assoc]⟩
/-- The first holders that are not known. -/
def fillM (hs : List Nat) (m : Nat) : List Nat := (fillN hs (m + hs.length)).take m
theorem fillM_of {hs : List Nat} {k m : Nat} (h : (fillN hs k).length = m) : fillM hs m = fillN hs k := by
  unfold fillM
  have hm := fill_many hs (m + hs.length)
  rcases Nat.le_total k (m + hs.length) with hk | hk
  · obtain ⟨T, hT⟩ := fill_pre hs k (m + hs.length - k)
    rw [show k + (m + hs.length - k) = m + hs.length by omega] at hT
    rw [hT, List.take_append_of_le_length (by omega), List.take_of_length_le (by omega)]
  · obtain ⟨T, hT⟩ := fill_pre hs (m + hs.length) (k - (m + hs.length))
    rw [show m + hs.length + (k - (m + hs.length)) = k by omega] at hT
    have hl : (fillN hs k).length = (fillN hs (m + hs.length)).length + T.length := by rw [hT, List.length_append]
    have h0 : T = [] := List.eq_nil_of_length_eq_zero (by omega)
    rw [h0, List.append_nil] at hT
    rw [hT, List.take_of_length_le (by omega)]
/-- Rows of polynomials' values. -/
def exT (p h m : Nat) (F : Nat → List Nat) : List ShN := (List.range h).map fun j => (j + 1, (List.range m).map fun e => evN p (F e) (j + 1))
theorem exT_len (p h m : Nat) (F : Nat → List Nat) : (exT p h m F).length = h := by simp [exT]
theorem exT_at {p h m : Nat} {F : Nat → List Nat} {j : Nat} (hj : j < h) : hN (exT p h m F) j = j + 1 ∧ vN (exT p h m F) j = (List.range m).map fun e => evN p (F e) (j + 1) := by
  simp [exT, hN, vN, List.getD_eq_getElem?_getD, hj]
theorem exT_zero (p h : Nat) (F : Nat → List Nat) : exT p h 0 F = emptyT h := by simp [exT, emptyT]
theorem exT_succ (p h m : Nat) (F : Nat → List Nat) : stepT p (F m) (exT p h m F) (exT p h m F).length = exT p h (m + 1) F := by
  refine shl_ext (by rw [stepT_len, exT_len, exT_len]) fun j hj => ?_
  rw [stepT_len, exT_len] at hj
  obtain ⟨e1, e2⟩ := stepT_at (p := p) (f := F m) (T := exT p h m F) (k := (exT p h m F).length) (j := j) (by rw [exT_len]; exact hj)
  rw [if_pos (by rw [exT_len]; exact hj)] at e2
  obtain ⟨e3, e4⟩ := exT_at (p := p) (m := m) (F := F) hj
  obtain ⟨e5, e6⟩ := exT_at (p := p) (m := m + 1) (F := F) hj
  rw [e1, e2, e3, e4, e5, e6, List.range_succ, List.map_append]
  exact ⟨rfl, rfl⟩
theorem exT_ext {p h m : Nat} {F G : Nat → List Nat} (H : ∀ e, e < m → ∀ x, evN p (F e) x = evN p (G e) x) : exT p h m F = exT p h m G := by
  unfold exT
  refine List.map_congr_left fun j _ => ?_
  refine congrArg (Prod.mk (j + 1)) (List.map_congr_left fun e he => H e (List.mem_range.1 he) _)
theorem exN_exT (p h m : Nat) (X : List Nat) (Y : Nat → List Nat) : exN p h m X Y = exT p h m (exF p X Y) := rfl

/-- The program's points: 0, known holders, and as many others as are needed. -/
def xpX (hs : List Nat) (k : Nat) : List Nat := [0] ++ hs ++ fillN hs k
def xpY (K : List ShN) (sec : List Nat) (c : Nat) (e : Nat) : List Nat := [nthN sec e] ++ colN K e ++ List.replicate c 0
theorem xpX_len (hs : List Nat) (k : Nat) : (xpX hs k).length = hs.length + 1 + (fillN hs k).length := by simp [xpX]; omega
theorem xpY_len (K : List ShN) (sec : List Nat) (c e : Nat) : (xpY K sec c e).length = K.length + 1 + c := by simp [xpY, colN]; omega
theorem xpX_nodup {hs : List Nat} (h : hs.Nodup) (h0 : 0 ∉ hs) (k : Nat) : (xpX hs k).Nodup := by
  have := exX_nodup h h0 k
  unfold exX at this
  unfold xpX
  exact (List.Perm.append_right _ (List.perm_append_comm)).nodup_iff.1 this
theorem xpX_lt {hs : List Nat} {k p : Nat} (h : ∀ x ∈ hs, x < p) (hk : k < p) : ∀ x ∈ xpX hs k, x < p := fun x hx => by
  refine exX_lt h hk x ?_
  unfold exX
  unfold xpX at hx
  simp only [List.mem_append] at hx ⊢
  rcases hx with (hx | hx) | hx
  · exact .inl (.inr hx)
  · exact .inl (.inl hx)
  · exact .inr hx
theorem xpY_lt {K : List ShN} {sec : List Nat} {c e p : Nat} (hp : 1 ≤ p) (hK : ∀ k, k < K.length → ∀ x ∈ vN K k, x < p) (hs : ∀ x ∈ sec, x < p) : ∀ y ∈ xpY K sec c e, y < p := fun y hy => by
  refine exY_lt (c := c) (e := e) hp hK hs y ?_
  unfold exY
  unfold xpY at hy
  simp only [List.mem_append] at hy ⊢
  rcases hy with (hy | hy) | hy
  · exact .inl (.inr hy)
  · exact .inl (.inl hy)
  · exact .inr hy
theorem nthN_app {A B : List Nat} (i : Nat) : nthN (A ++ B) i = if i < A.length then nthN A i else nthN B (i - A.length) := by
  by_cases h : i < A.length
  · rw [if_pos h]; simp [nthN, List.getD_eq_getElem?_getD, List.getElem?_append_left h]
  · rw [if_neg h]; simp [nthN, List.getD_eq_getElem?_getD, List.getElem?_append_right (show A.length ≤ i by omega)]
/-- Each point of the document is one of the program's. -/
theorem ex_xp {hs cs F : List Nat} {s : Nat} (hl : cs.length = hs.length) {i : Nat} (hi : i < hs.length + 1 + F.length) :
    ∃ j, j < hs.length + 1 + F.length ∧ nthN ([0] ++ hs ++ F) j = nthN (hs ++ [0] ++ F) i ∧ nthN ([s] ++ cs ++ List.replicate F.length 0) j = nthN (cs ++ [s] ++ List.replicate F.length 0) i := by
  by_cases h1 : i < hs.length
  · refine ⟨i + 1, by omega, ?_, ?_⟩
    · simp only [nthN_app, List.length_append, List.length_cons, List.length_nil]
      rw [if_pos (by omega), if_neg (by omega), if_pos (by omega), if_pos (by omega)]
      congr 1
    · simp only [nthN_app, List.length_append, List.length_cons, List.length_nil]
      rw [if_pos (by omega), if_neg (by omega), if_pos (by omega), if_pos (by omega)]
      congr 1
  · by_cases h2 : i = hs.length
    · subst h2
      refine ⟨0, by omega, ?_, ?_⟩
      · simp only [nthN_app, List.length_append, List.length_cons, List.length_nil]
        rw [if_pos (by omega), if_pos (by omega), if_pos (by omega), if_neg (by omega), Nat.sub_self]
      · simp only [nthN_app, List.length_append, List.length_cons, List.length_nil]
        rw [if_pos (by omega), if_pos (by omega), if_pos (by omega), if_neg (by omega), hl, Nat.sub_self]
    · refine ⟨i, hi, ?_, ?_⟩
      · simp only [nthN_app, List.length_append, List.length_cons, List.length_nil]
        rw [if_neg (by omega), if_neg (by omega)]
        congr 1; omega
      · simp only [nthN_app, List.length_append, List.length_cons, List.length_nil]
        rw [if_neg (by omega), if_neg (by omega)]
        congr 1; omega
theorem xp_rows {p n h k : Nat} {K : List ShN} {sec : List Nat} (P : PlanN p n h) (hg : GoodN p h K) (hs : ∀ x ∈ sec, x < p) (hk : k < p) :
    exT p h sec.length (fun e => thN p (xpX (hsN K) k) (xpY K sec (fillN (hsN K) k).length e)) = explN p h K sec k := by
  have hr := hs_rng hg
  have h0 : 0 ∉ hsN K := fun h0 => by have := hr 0 h0; omega
  have hlt : ∀ x ∈ hsN K, x < p := fun x hx => by have := hr x hx; have := P.hp; omega
  have hKp : ∀ k, k < K.length → ∀ x ∈ vN K k, x < p := fun j hj => (hg.rng j hj).2.2
  unfold explN
  rw [exN_exT]
  refine exT_ext fun e _ x => ?_
  have hX := xpX_lt hlt hk
  have hN := xpX_nodup hg.nd h0 k
  have hY := xpY_lt (c := (fillN (hsN K) k).length) (e := e) P.p1 hKp hs
  have hl : (thN p (xpX (hsN K) k) (xpY K sec (fillN (hsN K) k).length e)).length ≤ (exX (hsN K) k).length := by
    have := thN_len p (xpX (hsN K) k) (xpY K sec (fillN (hsN K) k).length e)
    rw [xpX_len] at this; rw [exX_len]; exact this
  have hi := interpN P.pr (exX_lt hlt hk) (exX_nodup hg.nd h0 k) hl (ys := exY K sec (fillN (hsN K) k).length e) (fun i hi => by
    rw [exX_len] at hi
    obtain ⟨j, hj, e1, e2⟩ := ex_xp (hs := hsN K) (cs := colN K e) (F := fillN (hsN K) k) (s := nthN sec e) (by rw [colN_len, hsN_len]) hi
    have e3 := thN_at P.pr hX hN hY (j := j) (by rw [xpX_len]; exact hj)
    show nthN (colN K e ++ [nthN sec e] ++ List.replicate (fillN (hsN K) k).length 0) i = evN p _ (nthN (hsN K ++ [0] ++ fillN (hsN K) k) i)
    rw [← e1, ← e2]; exact e3.symm) x
  obtain ⟨h1, h2⟩ := expl_it P hg hs hk e x
  rw [itV_ok h1] at h2
  rw [← hi, h2]

/-- What is said of any known shares and any secret. -/
noncomputable def xpE (p n h : Nat) (S : List Shr) (sec : List Int) : Int :=
  if gdB p h S = true ∧ (S.length = 0 ∨ (vS S 0).length = sec.length) then (if inside p sec = true then (if n ≤ S.length ∨ 2048 < sec.length then 3 else 0) else 2) else 1
def xpM (p n h : Nat) (K : List ShN) (sec : List Nat) : List ShN := exN p h sec.length (hsN K ++ [0] ++ fillM (hsN K) (n - 1 - K.length)) (exY K sec (n - 1 - K.length))
theorem xpM_of {p n h k : Nat} {K : List ShN} {sec : List Nat} (hl : K.length + 1 + (fillN (hsN K) k).length = n) : xpM p n h K sec = explN p h K sec k := by
  have h1 : (fillN (hsN K) k).length = n - 1 - K.length := by omega
  unfold xpM explN exX
  rw [fillM_of h1, h1]
noncomputable def xpL (p n h : Nat) (S : List Shr) (sec : List Int) : List ShN := if xpE p n h S sec = 0 then xpM p n h (natL S) (sec.map Int.toNat) else []
theorem xpE_gd {p n h : Nat} {S : List Shr} {sec : List Int} (H : gdB p h S = false) : xpE p n h S sec = 1 := by unfold xpE; rw [if_neg (fun g => by rw [H] at g; cases g.1)]
theorem xpE_len {p n h : Nat} {S : List Shr} {sec : List Int} (H : ¬ (S.length = 0 ∨ (vS S 0).length = sec.length)) : xpE p n h S sec = 1 := by unfold xpE; rw [if_neg (fun g => H g.2)]
theorem xpE_in {p n h : Nat} {S : List Shr} {sec : List Int} (H : gdB p h S = true) (H1 : S.length = 0 ∨ (vS S 0).length = sec.length) (H2 : inside p sec = false) : xpE p n h S sec = 2 := by unfold xpE; rw [if_pos ⟨H, H1⟩, if_neg (fun g => by rw [H2] at g; cases g)]
theorem xpE_few {p n h : Nat} {S : List Shr} {sec : List Int} (H : gdB p h S = true) (H1 : S.length = 0 ∨ (vS S 0).length = sec.length) (H2 : inside p sec = true) (H3 : n ≤ S.length ∨ 2048 < sec.length) : xpE p n h S sec = 3 := by unfold xpE; rw [if_pos ⟨H, H1⟩, if_pos H2, if_pos H3]
theorem xpE_ok {p n h : Nat} {S : List Shr} {sec : List Int} (H : gdB p h S = true) (H1 : S.length = 0 ∨ (vS S 0).length = sec.length) (H2 : inside p sec = true) (H3 : ¬ (n ≤ S.length ∨ 2048 < sec.length)) : xpE p n h S sec = 0 := by unfold xpE; rw [if_pos ⟨H, H1⟩, if_pos H2, if_neg H3]
theorem xpL_no {p n h : Nat} {S : List Shr} {sec : List Int} (H : xpE p n h S sec ≠ 0) : xpL p n h S sec = [] := if_neg H
theorem xpL_ok {p n h : Nat} {S : List Shr} {sec : List Int} (H : xpE p n h S sec = 0) : xpL p n h S sec = xpM p n h (natL S) (sec.map Int.toNat) := if_pos H
theorem xpM_len (p n h : Nat) (K : List ShN) (sec : List Nat) : (xpM p n h K sec).length = h := exN_len _ _ _ _ _
/-- They are shares of the secret, and the known ones are among them. -/
theorem xpM_full {p n h : Nat} {K : List ShN} {sec : List Nat} (P : PlanN p n h) (hg : GoodN p h K) (hs : ∀ x ∈ sec, x < p) (hl : K.length < n) (hKm : K.length = 0 ∨ (vN K 0).length = sec.length) :
    Full p n h sec (xpM p n h K sec) ∧ ∀ k, k < K.length → hN (xpM p n h K sec) (hN K k - 1) = hN K k ∧ vN (xpM p n h K sec) (hN K k - 1) = vN K k := by
  obtain ⟨k, hk, hkl⟩ : ∃ k, k < n ∧ (fillN (hsN K) k).length = n - 1 - K.length := by
    have hst : ∀ k, (fillN (hsN K) (k + 1)).length ≤ (fillN (hsN K) k).length + 1 := fun k => by
      by_cases h : (k + 1) ∈ hsN K
      · rw [fill_held h]; omega
      · rw [fill_new h]; simp
    have hup : ∀ m, m ≤ (fillN (hsN K) (n - 1)).length → ∃ k, k ≤ n - 1 ∧ (fillN (hsN K) k).length = m := by
      have : ∀ j m, m ≤ (fillN (hsN K) j).length → ∃ k, k ≤ j ∧ (fillN (hsN K) k).length = m := by
        intro j
        induction j with
        | zero => intro m hm; exact ⟨0, Nat.le_refl _, by simp [fillN] at hm ⊢; omega⟩
        | succ j ih =>
          intro m hm
          by_cases hmj : m ≤ (fillN (hsN K) j).length
          · obtain ⟨k, h1, h2⟩ := ih m hmj; exact ⟨k, by omega, h2⟩
          · exact ⟨j + 1, Nat.le_refl _, by have := hst j; omega⟩
      exact this (n - 1)
    have hm := fill_many (hsN K) (n - 1)
    rw [hsN_len] at hm
    obtain ⟨k, h1, h2⟩ := hup (n - 1 - K.length) (by omega)
    exact ⟨k, by omega, h2⟩
  have hkp : k < p := by have := P.nh; have := P.hp; omega
  have hkn : K.length + 1 + (fillN (hsN K) k).length = n := by omega
  rw [xpM_of hkn]
  refine ⟨expl_full P hg hs hkp hkn, fun j hj => ?_⟩
  have hr := hg.rng j hj
  have hidx : hN K j - 1 < h := by omega
  obtain ⟨e1, e2⟩ := exN_at (p := p) (m := sec.length) (X := exX (hsN K) k) (Y := exY K sec (fillN (hsN K) k).length) hidx
  unfold explN
  refine ⟨by rw [e1]; omega, ?_⟩
  rw [e2]
  have hjl : (vN K j).length = sec.length := by
    rcases hKm with h0 | h0
    · omega
    · rw [hg.len j hj, h0]
  refine extN (by simp [hjl]) fun e he => ?_
  have he : e < sec.length := by simpa using he
  rw [nthN_eq (by simpa using he)]
  simp only [List.getElem_map, List.getElem_range]
  rw [show hN K j - 1 + 1 = hN K j by omega]
  have hrs := hs_rng hg
  have h0 : 0 ∉ hsN K := fun h0 => by have := hrs 0 h0; omega
  have hlt : ∀ x ∈ hsN K, x < p := fun x hx => by have := hrs x hx; have := P.hp; omega
  have hat := exF_at P.pr (X := exX (hsN K) k) (exX_lt hlt hkp) (exX_nodup hg.nd h0 k) (Y := exY K sec (fillN (hsN K) k).length) (e := e) (exY_lt P.p1 (fun j hj => (hg.rng j hj).2.2) hs) (j := j) (by rw [exX_len, hsN_len]; omega)
  have hx : nthN (exX (hsN K) k) j = hN K j := by
    unfold exX
    rw [nthN_app, if_pos (by rw [List.length_append, hsN_len]; omega), nthN_app, if_pos (by rw [hsN_len]; exact hj), hsN_nth hj]
  have hy : nthN (exY K sec (fillN (hsN K) k).length e) j = nthN (vN K j) e := by
    unfold exY
    rw [nthN_app, if_pos (by rw [List.length_append, colN_len]; omega), nthN_app, if_pos (by rw [colN_len]; exact hj), colN_nth hj]
  rw [hx, hy] at hat
  exact hat
end Go.Proofs.YtlhipgejiacklaaDoor
namespace Go.Proofs.YtlhipgejiacklaaDoor
open Go.RowKit

theorem zeroCells_int (m : Nat) : Builtin.zeroCells (Value.int .i64 0).cells m = (List.replicate m (Value.int .i64 0)).toArray := by
  rw [show (Value.int .i64 0).cells = #[Value.int .i64 0] from rfl]
  apply Array.ext
  · simp [Builtin.zeroCells]
  · intro i h1 h2
    simp [Builtin.zeroCells]
    have : i % 1 = 0 := Nat.mod_one i
    simp [this]
theorem run_app_zero_room (ty : TypeId) {w : World} {g n cap m : Nat} {cur : Array Value} (hg : w.heap[g]? = some (.cells cur 3 (0, 0))) (hroom : n + m ≤ cap) (hfit : n + m ≤ cur.size) (hm : 0 < m) (hm2 : m ≤ 1099511627776) :
    (Builtin.append_ #[22, 3] ty #[.slice (some ⟨g, 0, none⟩) n cap, .int .i64 (m : Int)]).run Tryd.prog w =
      .ok (.slice (some ⟨g, 0, none⟩) (n + m) cap) (w.setRow g (cur.toList.take n ++ List.replicate m (Value.int .i64 0) ++ cur.toList.drop (n + m)).toArray) := by
  obtain ⟨i, hi, hz, hsz, hby⟩ := info_parts info_int
  have hst := run_storeCells_at Tryd.prog g (n * i.size) 3 (List.replicate m (Value.int .i64 0)) 0 cur w hg (by rw [hsz]; simpa using hfit) (fun u hu => by rw [List.eq_of_mem_replicate hu]; rfl)
  simp only [Nat.add_zero] at hst
  have hw : IntKind.i64.wrap (m : Int) = (m : Int) := IntWalk.i64_in _ (by omega)
  have h1 : ¬ ((m : Int) < 0) := by omega
  have h2 : ¬ (281474976710656 < (m : Int) * i.bytes) := by rw [hby]; omega
  have hn1 : n * i.size = n := by rw [hsz, Nat.mul_one]
  have hr := hst
  rw [hn1] at hr
  simp [Builtin.append_, run_underlying Tryd.underlying22, run_underlying Tryd.underlying3, sizeOf, typeInfo, zeroValue, hi, hz, hroom, hw, h1, h2, Addr.add_lit, zeroCells_int, asInt, asIntOf, hr, hsz, show ¬ m = 0 by omega]
theorem run_app_zero_grow (ty : TypeId) {w : World} {b : Addr} {n cap m : Nat} {olds : List Value} (hlo : olds.length = n) (holds : ∀ j v, olds[j]? = some v → w.cell? (b.add j) = some v) (hgr : cap < n + m) (hm : 0 < m) (hl : n + m ≤ 4294967296) :
    (Builtin.append_ #[22, 3] ty #[.slice (some b) n cap, .int .i64 (m : Int)]).run Tryd.prog w =
      .ok (.slice (some ⟨w.heap.size, 0, none⟩) (n + m) (grownCap w (n + m) cap 3)) (w.drew.alloc (.cells (olds.toArray ++ (List.replicate m (Value.int .i64 0)).toArray ++ Builtin.zeroCells (Value.int .i64 0).cells (grownCap w (n + m) cap 3 - (n + m))) 3)) := by
  obtain ⟨i, hi, hz, hsz, hby⟩ := info_parts info_int
  have hw : IntKind.i64.wrap (m : Int) = (m : Int) := IntWalk.i64_in _ (by omega)
  have h1 : ¬ ((m : Int) < 0) := by omega
  have h2 : ¬ (281474976710656 < (m : Int) * i.bytes) := by rw [hby]; omega
  have hn : ¬ (n + m ≤ cap) := by omega
  have h63' : ¬ (9223372036854775807 < ((n : Int) + (m : Int))) := by omega
  have h48' : ¬ (281474976710656 < Builtin.nextslicecap (n + m) cap * i.bytes) := by
    have := growslice_fits (need := n + m) (old := cap) (bytes := i.bytes) (by omega) (by rw [hby]; omega)
    omega
  have hfo := run_firstCells_some (P := Tryd.prog) w.drew i.size n b n cap olds (by rw [hlo, hsz, Nat.mul_one]) (by simpa using holds)
  rw [hsz] at hfo
  simp [Builtin.append_, run_underlying Tryd.underlying22, run_underlying Tryd.underlying3, sizeOf, typeInfo, zeroValue, hi, hz, hn, hw, h1, h2, h63', h48', Question.forced, asInt, asIntOf, hsz, show ¬ m = 0 by omega, hfo, newRow, grownCap, zeroCells_int]
theorem take_two {α : Type} {X Y Z : List α} {n : Nat} (h : n = X.length + Y.length) : (X ++ Y ++ Z).take n = X ++ Y := by rw [h, ← List.length_append]; exact List.take_left
theorem run_app_zeros (ty : TypeId) {w : World} {base : Nat} {v : Value} {S : List Nat} (m : Nat) (hown : w.ownsRow base 3 1 v S.length (valsN S)) (h0 : 0 < S.length) (hl : S.length + m ≤ 4294967296) (hbase : base ≤ w.heap.size) :
    ∃ v' w', (Builtin.append_ #[22, 3] ty #[v, .int .i64 (m : Int)]).run Tryd.prog w = .ok v' w' ∧ w'.ownsRow base 3 1 v' (S ++ List.replicate m 0).length (valsN (S ++ List.replicate m 0)) ∧ w.grownBy w' v.ownBlock := by
  obtain ⟨i, hi, hz, hsz, hby⟩ := info_parts info_int
  have hxl : (valsN S).length = S.length := by simp [valsN]
  have hval : valsN (S ++ List.replicate m 0) = valsN S ++ List.replicate m (Value.int .i64 0) := by simp [valsN]
  have hlen : (S ++ List.replicate m 0).length = S.length + m := by simp
  rcases Nat.eq_zero_or_pos m with rfl | hm
  · refine ⟨v, w, ?_, by simpa using hown, ⟨rfl, rfl, rfl, Nat.le_refl _, fun _ _ _ => rfl⟩⟩
    rcases hown.2 with ⟨_, h2⟩ | ⟨g, cap, cur, rfl, hbg, hg, hnc, hcm, hcs, htake⟩
    · omega
    · simp [Builtin.append_, run_underlying Tryd.underlying22, run_underlying Tryd.underlying3, sizeOf, typeInfo, zeroValue, hi, hz, hnc, hby, asInt, asIntOf, Addr.add_lit, storeCells, show IntKind.i64.wrap 0 = 0 by decide]
  · rcases hown.2 with ⟨_, h2⟩ | ⟨g, cap, cur, rfl, hbg, hg, hnc, hcm, hcs, htake⟩
    · omega
    · rw [hval, hlen]
      by_cases hroom : S.length + m ≤ cap
      · refine ⟨_, _, run_app_zero_room ty hg hroom (by omega) hm (by omega), ⟨by simp [valsN], .inr ⟨g, cap, _, rfl, hbg, setRow_heap w g cur _ _ _ hg, hroom, hcm, ?_, ?_⟩⟩, ⟨rfl, rfl, rfl, by simp, fun k _ hk => setRow_other w g k _ (fun e => hk (by simp [Value.ownBlock, e]))⟩⟩
        · simp; omega
        · rw [Nat.mul_one] at htake ⊢
          rw [htake]
          exact take_two (by rw [hxl, List.length_replicate])
      · have holds : ∀ j u, (valsN S)[j]? = some u → w.cell? ((⟨g, 0, none⟩ : Addr).add j) = some u := hown.cells (g := g) rfl
        have hge := grownCap_ge w (S.length + m) cap 3
        have hcm2 : grownCap w (S.length + m) cap 3 ≤ maxLen := grownCap_le_maxLen w (S.length + m) cap 3 (by unfold maxLen; omega)
        refine ⟨_, _, run_app_zero_grow ty hxl holds (by omega) hm hl, ⟨by simp [valsN], .inr ⟨w.heap.size, _, _, rfl, hbase, heap_alloc_new w.drew _, hge, hcm2, ?_, ?_⟩⟩, ⟨rfl, rfl, rfl, by simp, fun k hk _ => (by first | exact heap_alloc_old w.drew _ k hk | exact heap_alloc_old w.drew _ hk)⟩⟩
        · simp only [Array.size_append, List.size_toArray, size_zeroCells, hxl, List.length_replicate, show (Value.int .i64 0).cells.size = 1 from rfl]
          omega
        · rw [Nat.mul_one, Array.toList_append, Array.toList_append]
          exact take_two (by rw [List.length_replicate]; show _ = (valsN S).length + m; rw [hxl])
/-- append of m zeros onto a row of the own. -/
theorem app_zeros {ops : Array Oper} {rest : List Oper} {o : Oper} {a : Act} {Q : Exit → Act → World → Prop} (hgd : o.guard = none) (s x : Operand)
    (ho : o.op = .call { callee := .builtin .append, args := #[s, x], argTypes := #[22, 3] })
    {base : Nat} {w : World} {v : Value} {S : List Nat} (m : Nat) (hs : a.eval s = v) (hown : w.ownsRow base 3 1 v S.length (valsN S)) (h0 : 0 < S.length)
    (hx : a.eval x = .int .i64 (m : Int)) (hl : S.length + m ≤ 4294967296) (hbase : base ≤ w.heap.size)
    (h : ∀ v' w', w'.ownsRow base 3 1 v' (S ++ List.replicate m 0).length (valsN (S ++ List.replicate m 0)) → Below base w w' → wpList Tryd.prog ops Q rest (a.put o.dst v') w') :
    wpList Tryd.prog ops Q (o :: rest) a w := by
  refine wpList_plain hgd fun _ hK => ?_
  obtain ⟨v', w', hr, h2, h3⟩ := run_app_zeros o.type m hown h0 hl hbase
  unfold Oper.wp execOp
  simp only [ho, resolve, invoke, builtin, Sem.run_bind, Sem.run_pure, Result.andThen_ok, List.map_toArray, List.map_cons, List.map_nil, hs, hx, hr]
  exact hK _ _ (h v' w' h2 ((Below.refl _ _).grown h3 hbase (fun k hk => (hown.lt k hk).1)))
end Go.Proofs.YtlhipgejiacklaaDoor
namespace Go.Proofs.YtlhipgejiacklaaDoor
open Go.RowKit

theorem xpX_mem {hs : List Nat} {j : Nat} : (j + 1) ∈ xpX hs j ↔ (j + 1) ∈ hs := by
  unfold xpX
  refine ⟨fun h => ?_, fun h => List.mem_append_left _ (List.mem_append_right _ h)⟩
  rcases List.mem_append.1 h with h | h
  · rcases List.mem_append.1 h with h | h
    · simp at h
    · exact h
  · have := fill_mem h; omega
theorem xpX_held {hs : List Nat} {j : Nat} (h : (j + 1) ∈ hs) : xpX hs (j + 1) = xpX hs j := by unfold xpX; rw [fill_held h]
theorem xpX_new {hs : List Nat} {j : Nat} (h : ¬ (j + 1) ∈ hs) : xpX hs (j + 1) = xpX hs j ++ [j + 1] := by unfold xpX; rw [fill_new h]; simp only [List.append_assoc]
theorem xpX_many (hs : List Nat) (j : Nat) : j + 1 ≤ (xpX hs j).length := by rw [xpX_len]; have := fill_many hs j; omega
theorem deal_goT {wr w6 : World} {d base p : Nat} {n h : Int} {T : List ShN} (hD : DlrAt wr d base p n h T) (hb : Below wr.heap.size wr w6) {F : Option Addr} {f : List Nat} (hF : NatsAt w6 F f) (hFb : ∀ b off, F = some ⟨b, off, none⟩ → wr.heap.size ≤ b ∧ b < w6.heap.size) (cf : Nat)
    (hp : 1 ≤ p) (hp2 : p ≤ 2147483648) (hf : ∀ x ∈ f, x < p) (hh : ∀ j, j < T.length → hN T j < p ∧ (vN T j).length ≤ 1048576) (hh0 : T.length ≤ 1000) (hfl : f.length ≤ 1048576) :
    Calls Tryd.prog 85 #[.pointer (some ⟨d, 0, none⟩), .slice F f.length cf] w6
      (fun e w' => e = .returned (.tuple #[]) ∧ DlrAt w' d base p n h (stepT p f T T.length) ∧ Below base w6 w') := by
  obtain ⟨h1, h2, v, H, h3, h4⟩ := hD
  refine deal_any d base p n h _ F cf f w6 v H h1 (Nat.le_trans h2 hb.size) ((hb.block d (by omega)).trans h3) (h4.below hb) hF (fun bF off e => ⟨fun i hi b e2 => ?_, fun b e2 => ?_⟩) (fun bF off e => (hFb bF off e).2) hp hp2 hf (fun j hj => (hh j hj).1) hfl hh0 (fun j hj => (hh j hj).2)
  · have := (hFb bF off e).1
    have := (World.ownsRow.lt (h4.row i hi) b e2).2
    omega
  · have := (hFb bF off e).1
    have := (World.ownsRow.lt h4.out b e2).2
    omega
theorem sl_none {A : Option Addr} {c : Nat} {L : List Nat} (h : SlOK A c L) : A = none → L.length = 0 ∧ c = 0 := fun e => by
  have h1 := h.nil e
  have h2 := h.len
  exact ⟨by omega, h1⟩
theorem xpY_lit (K : List ShN) (sec : List Nat) (c e : Nat) : [nthN sec e] ++ colN K e ++ List.replicate c 0 = xpY K sec c e := rfl
theorem thR_xp {p n h k : Nat} {K : List ShN} {sec : List Nat} (P : PlanN p n h) (hg : GoodN p h K) (hk : k < p) (e : Nat) :
    thR p (xpX (hsN K) k) (xpY K sec (fillN (hsN K) k).length e) = thN p (xpX (hsN K) k) (xpY K sec (fillN (hsN K) k).length e) ∧ itE (xpX (hsN K) k) (xpY K sec (fillN (hsN K) k).length e) = 0 := by
  have hr := hs_rng hg
  have h0 : itE (xpX (hsN K) k) (xpY K sec (fillN (hsN K) k).length e) = 0 := by
    rw [itE_len (by rw [xpX_len, xpY_len, hsN_len]), ckE_ok (by rw [xpX_len]; omega) (xpX_nodup hg.nd (fun h0 => by have := hr 0 h0; omega) k)]
  exact ⟨thR_ok h0, h0⟩

end Go.Proofs.YtlhipgejiacklaaDoor
namespace Go.Proofs.YtlhipgejiacklaaDoor
open Go.RowKit

theorem refElems_any (p : Int) (A : Option Addr) (L : List Int) (c : Nat) (w : World) (hv : primeV p = true) (hI : IntsAt w A L) (hl : L.length ≤ 1099511627776) :
    Calls Tryd.prog 68 #[.int .i64 p, .slice A L.length c] w (Ret (.bool (inside p L)) w) := by
  have := elems_ref A L c p w hI hl
  unfold elemsI at this
  rw [hv, Bool.and_true] at this
  exact this
theorem IntsAt.belowW {w w' : World} {A : Option Addr} {L : List Int} (h : IntsAt w A L) (hb : Below w.heap.size w w') : IntsAt w' A L := h.below hb
set_option maxRecDepth 100000 in
set_option maxHeartbeats 1000000 in
theorem refDeal_inv (p n h : Int) (A B : Option Addr) (ca cb : Nat) (sec ran : List Int) (w : World) (hv : primeV p = validI p) (hA : IntsAt w A sec) (hR : IntsAt w B ran) (hl1 : sec.length ≤ 1048576) (hl2 : ran.length ≤ 1048576) (hpl : plB p n h = false) :
    Calls Tryd.prog 31 #[planV p n h, .slice A sec.length ca, .slice B ran.length cb] w (ShErr [] 1 w) := by
  have HVA := Lib.hid (fun (W : World) => show Calls Tryd.prog 63 #[planV p n h] W (RetB (.bool false) W) from by have := refValid_plan p n h W hv; rw [hpl] at this; exact this)
  clear hA hR hv hpl
  go_enter Tryd.func31, Tryd.ntmps31
  go_wp2_with fail
  refine ret_below (HVA.out _) ?_
  intro w1 hb1
  have hbw1 := below_trans (below_alloc _ _) hb1
  have HP := Lib.hid ((PlanCell.new (w := w) p n h rfl).below hb1)
  have p0 := HP.out.c0
  have p1 := HP.out.c1
  have p2 := HP.out.c2
  go_wp2_with fail
  go_ret2
  exact ShErr.nil _ hbw1
set_option maxRecDepth 100000 in
set_option maxHeartbeats 1000000 in
theorem refDeal_big (p n h : Int) (A B : Option Addr) (ca cb : Nat) (sec ran : List Int) (w : World) (hv : primeV p = validI p) (hA : IntsAt w A sec) (hR : IntsAt w B ran) (hl1 : sec.length ≤ 1048576) (hl2 : ran.length ≤ 1048576) (hpl : plB p n h = true) (hbig : 2048 < sec.length) :
    Calls Tryd.prog 31 #[planV p n h, .slice A sec.length ca, .slice B ran.length cb] w (ShErr [] 3 w) := by
  have HVA := Lib.hid (fun (W : World) => show Calls Tryd.prog 63 #[planV p n h] W (RetB (.bool true) W) from by have := refValid_plan p n h W hv; rw [hpl] at this; exact this)
  have t1 : decide (2048 < (sec.length : Int)) = true := decide_eq_true (by omega)
  clear hA hR hv hpl
  go_enter Tryd.func31, Tryd.ntmps31
  go_wp2_with fail
  refine ret_below (HVA.out _) ?_
  intro w1 hb1
  have hbw1 := below_trans (below_alloc _ _) hb1
  have HP := Lib.hid ((PlanCell.new (w := w) p n h rfl).below hb1)
  have p0 := HP.out.c0
  have p1 := HP.out.c1
  have p2 := HP.out.c2
  go_wp2_with fail
  go_ret2
  exact ShErr.nil _ hbw1
set_option maxRecDepth 100000 in
set_option maxHeartbeats 1000000 in
theorem refDeal_sec (p n h : Int) (A B : Option Addr) (ca cb : Nat) (sec ran : List Int) (w : World) (hv : primeV p = validI p) (hA : IntsAt w A sec) (hR : IntsAt w B ran) (hl1 : sec.length ≤ 1048576) (hl2 : ran.length ≤ 1048576) (hpl : plB p n h = true) (hbig : ¬ 2048 < sec.length) (hi : inside p sec = false) :
    Calls Tryd.prog 31 #[planV p n h, .slice A sec.length ca, .slice B ran.length cb] w (ShErr [] 2 w) := by
  have HVA := Lib.hid (fun (W : World) => show Calls Tryd.prog 63 #[planV p n h] W (RetB (.bool true) W) from by have := refValid_plan p n h W hv; rw [hpl] at this; exact this)
  have hpv : primeV p = true := plB_pv hpl hv
  have t1 : decide (2048 < (sec.length : Int)) = false := decide_eq_false (by omega)
  have HES := Lib.hid (fun (W : World) (hb : Below w.heap.size w W) => show Calls Tryd.prog 68 #[.int .i64 p, .slice A sec.length ca] W (Ret (.bool false) W) from by have := refElems_any p A sec ca W hpv (hA.below hb) (by omega); rw [hi] at this; exact this)
  clear hA hR hv hpl hpv hi
  go_enter Tryd.func31, Tryd.ntmps31
  go_wp2_with fail
  refine ret_below (HVA.out _) ?_
  intro w1 hb1
  have hbw1 := below_trans (below_alloc _ _) hb1
  have HP := Lib.hid ((PlanCell.new (w := w) p n h rfl).below hb1)
  have p0 := HP.out.c0
  have p1 := HP.out.c1
  have p2 := HP.out.c2
  go_wp2_with fail
  refine ret_pure (HES.out _ hbw1) ?_
  go_wp2_with fail
  go_ret2
  exact ShErr.nil _ hbw1
set_option maxRecDepth 100000 in
set_option maxHeartbeats 1000000 in
theorem refDeal_ran (p n h : Int) (A B : Option Addr) (ca cb : Nat) (sec ran : List Int) (w : World) (hv : primeV p = validI p) (hA : IntsAt w A sec) (hR : IntsAt w B ran) (hl1 : sec.length ≤ 1048576) (hl2 : ran.length ≤ 1048576) (hpl : plB p n h = true) (hbig : ¬ 2048 < sec.length) (hi : inside p sec = true) (hj : inside p ran = false) :
    Calls Tryd.prog 31 #[planV p n h, .slice A sec.length ca, .slice B ran.length cb] w (ShErr [] 2 w) := by
  have HVA := Lib.hid (fun (W : World) => show Calls Tryd.prog 63 #[planV p n h] W (RetB (.bool true) W) from by have := refValid_plan p n h W hv; rw [hpl] at this; exact this)
  have hpv : primeV p = true := plB_pv hpl hv
  have t1 : decide (2048 < (sec.length : Int)) = false := decide_eq_false (by omega)
  have HES := Lib.hid (fun (W : World) (hb : Below w.heap.size w W) => show Calls Tryd.prog 68 #[.int .i64 p, .slice A sec.length ca] W (Ret (.bool true) W) from by have := refElems_any p A sec ca W hpv (hA.below hb) (by omega); rw [hi] at this; exact this)
  have HER := Lib.hid (fun (W : World) (hb : Below w.heap.size w W) => show Calls Tryd.prog 68 #[.int .i64 p, .slice B ran.length cb] W (Ret (.bool false) W) from by have := refElems_any p B ran cb W hpv (hR.below hb) (by omega); rw [hj] at this; exact this)
  clear hA hR hv hpl hpv hi hj
  go_enter Tryd.func31, Tryd.ntmps31
  go_wp2_with fail
  refine ret_below (HVA.out _) ?_
  intro w1 hb1
  have hbw1 := below_trans (below_alloc _ _) hb1
  have HP := Lib.hid ((PlanCell.new (w := w) p n h rfl).below hb1)
  have p0 := HP.out.c0
  have p1 := HP.out.c1
  have p2 := HP.out.c2
  go_wp2_with fail
  refine ret_pure (HES.out _ hbw1) ?_
  go_wp2_with fail
  refine ret_pure (HER.out _ hbw1) ?_
  go_wp2_with fail
  go_ret2
  exact ShErr.nil _ hbw1
set_option maxRecDepth 100000 in
set_option maxHeartbeats 1000000 in
theorem refDeal_len (p n h : Int) (A B : Option Addr) (ca cb : Nat) (sec ran : List Int) (w : World) (hv : primeV p = validI p) (hA : IntsAt w A sec) (hR : IntsAt w B ran) (hl1 : sec.length ≤ 1048576) (hl2 : ran.length ≤ 1048576) (hpl : plB p n h = true) (hbig : ¬ 2048 < sec.length) (hi : inside p sec = true) (hj : inside p ran = true) (hn1 : 1 ≤ n) (hn2 : n ≤ 1048576) (hle : ¬ (ran.length : Int) = sec.length * (n - 1)) :
    Calls Tryd.prog 31 #[planV p n h, .slice A sec.length ca, .slice B ran.length cb] w (ShErr [] 2 w) := by
  have HVA := Lib.hid (fun (W : World) => show Calls Tryd.prog 63 #[planV p n h] W (RetB (.bool true) W) from by have := refValid_plan p n h W hv; rw [hpl] at this; exact this)
  have hpv : primeV p = true := plB_pv hpl hv
  have t1 : decide (2048 < (sec.length : Int)) = false := decide_eq_false (by omega)
  have HES := Lib.hid (fun (W : World) (hb : Below w.heap.size w W) => show Calls Tryd.prog 68 #[.int .i64 p, .slice A sec.length ca] W (Ret (.bool true) W) from by have := refElems_any p A sec ca W hpv (hA.below hb) (by omega); rw [hi] at this; exact this)
  have HER := Lib.hid (fun (W : World) (hb : Below w.heap.size w W) => show Calls Tryd.prog 68 #[.int .i64 p, .slice B ran.length cb] W (Ret (.bool true) W) from by have := refElems_any p B ran cb W hpv (hR.below hb) (by omega); rw [hj] at this; exact this)
  have HRN := Lib.hid (fun (W : World) => refRandom_any p n h sec.length W (by omega) (by omega) (by omega) (by omega))
  have t2 : ((ran.length : Int) != (sec.length : Int) * (n - 1)) = true := by simp [hle]
  clear hA hR hv hpl hpv hi hj hle
  go_enter Tryd.func31, Tryd.ntmps31
  go_wp2_with fail
  refine ret_below (HVA.out _) ?_
  intro w1 hb1
  have hbw1 := below_trans (below_alloc _ _) hb1
  have HP := Lib.hid ((PlanCell.new (w := w) p n h rfl).below hb1)
  have p0 := HP.out.c0
  have p1 := HP.out.c1
  have p2 := HP.out.c2
  go_wp2_with fail
  refine ret_pure (HES.out _ hbw1) ?_
  go_wp2_with fail
  refine ret_pure (HER.out _ hbw1) ?_
  go_wp2_with fail
  refine ret_below (HRN.out _) ?_
  intro w4 hb4
  have hbw4 := below_trans hbw1 hb4
  go_wp2_with fail
  go_ret2
  exact ShErr.nil _ hbw4
/-- The document's Deal. -/
theorem refDealS_any (p n h : Int) (A B : Option Addr) (ca cb : Nat) (sec ran : List Int) (w : World) (hv : primeV p = validI p) (hA : IntsAt w A sec) (hR : IntsAt w B ran) (hl1 : sec.length ≤ 1048576) (hl2 : ran.length ≤ 1048576) (hok : IOK B cb ran.length) :
    Calls Tryd.prog 31 #[planV p n h, .slice A sec.length ca, .slice B ran.length cb] w (ShErr (shL (dlL p n h sec ran)) (dlE p n h sec ran) w) := by
  rcases hpl : plB p n h with _ | _
  · have e := dlE_pl (sec := sec) (ran := ran) hpl
    rw [dlL_no (by rw [e]; decide), e]
    exact refDeal_inv p n h A B ca cb sec ran w hv hA hR hl1 hl2 hpl
  · by_cases hbig : 2048 < sec.length
    · have e := dlE_big (sec := sec) (ran := ran) hpl hbig
      rw [dlL_no (by rw [e]; decide), e]
      exact refDeal_big p n h A B ca cb sec ran w hv hA hR hl1 hl2 hpl hbig
    · have hPP : PlanP p n h := of_decide_eq_true hpl
      obtain ⟨b1, b2, b3, b4, b5⟩ := hPP
      by_cases hall : inside p sec = true ∧ inside p ran = true ∧ (ran.length : Int) = sec.length * (n - 1)
      · have e := dlE_ok hpl hbig hall
        obtain ⟨q, rfl, hq, hq2⟩ := plan_prime (of_decide_eq_true hpl) hv
        obtain ⟨n', rfl⟩ := Int.eq_ofNat_of_zero_le (show 0 ≤ n by omega)
        obtain ⟨h', rfl⟩ := Int.eq_ofNat_of_zero_le (show 0 ≤ h by omega)
        obtain ⟨e1, e3⟩ := inside_nat hall.1
        obtain ⟨e2, e4⟩ := inside_nat hall.2.1
        have hd : dlL (q : Int) n' h' sec ran = dealN q n' h' (sec.map Int.toNat) (ran.map Int.toNat) := by unfold dlL; rw [if_pos e]; rfl
        rw [hd, e]
        have hs1 : (sec.map Int.toNat).length = sec.length := List.length_map _
        have hs2 : (ran.map Int.toNat).length = ran.length := List.length_map _
        have hAn : NatsAt w A (sec.map Int.toNat) := IntsAt.nats (by rw [e1]; exact hA)
        have hRn : NatsAt w B (ran.map Int.toNat) := IntsAt.nats (by rw [e2]; exact hR)
        have hle : (ran.map Int.toNat).length = (sec.map Int.toNat).length * (n' - 1) := by
          rw [hs1, hs2]
          have h1 := hall.2.2
          rw [show (n' : Int) - 1 = ((n' - 1 : Nat) : Int) by omega] at h1
          exact Int.ofNat_inj.1 (by push_cast; exact h1)
        rcases Nat.lt_or_ge n' 2 with h1 | h1
        · have := refDeal_z q n' h' A B ca cb (sec.map Int.toNat) (ran.map Int.toNat) w hq hq2 hv hpl (by omega) (by omega) (by omega) (by omega) (by omega) hAn hRn (by rw [hs2]; exact hok) e3 e4 hle (by omega) (by omega)
          rw [hs1, hs2] at this
          exact this
        · have := refDeal_k q n' h' A B ca cb (sec.map Int.toNat) (ran.map Int.toNat) w hq hq2 hv hpl (by omega) h1 (by omega) (by omega) (by omega) hAn hRn (by rw [hs2]; exact hok) e3 e4 hle (by omega) (by omega)
          rw [hs1, hs2] at this
          exact this
      · have e := dlE_bad hpl hbig hall
        rw [dlL_no (by rw [e]; decide), e]
        rcases hi : inside p sec with _ | _
        · exact refDeal_sec p n h A B ca cb sec ran w hv hA hR hl1 hl2 hpl hbig hi
        · rcases hj : inside p ran with _ | _
          · exact refDeal_ran p n h A B ca cb sec ran w hv hA hR hl1 hl2 hpl hbig hi hj
          · exact refDeal_len p n h A B ca cb sec ran w hv hA hR hl1 hl2 hpl hbig hi hj b1 (by omega) (fun H => hall ⟨hi, hj, H⟩)
end Go.Proofs.YtlhipgejiacklaaDoor
namespace Go.Proofs.YtlhipgejiacklaaDoor
open Go.RowKit Go.Maps

/-! ### The map -/
theorem Sn_map (L : List Nat) : ∀ k, k ≤ L.length → IsMap (Sn (H := Unit) L k)
  | 0, _ => by rw [Sn_zero]; exact isMap_empty
  | k + 1, hk => by rw [Sn_succ L k (by omega)]; exact (Sn_map L k (by omega)).put _ _
theorem Sn_at (L : List Nat) (x : Nat) : ∀ k, k ≤ L.length → (Sn (H := Unit) L k).atKey (keyL x) (.lit (.bool false)) = .lit (.bool (decide (x ∈ L.take k)))
  | 0, _ => by rw [Sn_zero]; simp; rfl
  | k + 1, hk => by
    rw [Sn_succ L k (by omega)]
    have hmem : x ∈ L.take (k + 1) ↔ x ∈ L.take k ∨ x = nthN L k := by
      rw [List.take_succ_eq_append_getElem (by omega), List.mem_append, nthN_eq (by omega)]; simp
    by_cases hx : x = nthN L k
    · rw [← hx, atKey_put_same (Sn_map L k (by omega)) (keyL_key x), decide_eq_true (hmem.2 (.inr hx))]
    · rw [atKey_put_other (fun e => hx (by unfold keyL at e; injection e with _ e; omega)), Sn_at L x k (by omega)]
      congr 2
      rw [decide_eq_decide, hmem]
      exact ⟨.inl, fun h => h.resolve_right hx⟩
theorem zeroB (w : World) : (zeroValue 4).run Tryd.prog w = .ok (.bool false) w := by kernel_rfl
theorem look_bool {w : World} {b n : Nat} {D : DataW Unit} (h : w.ownsMap Tryd.prog 3 (plainElem Tryd.prog 4) b n D) {x : Nat} (hx : x ≤ 4294967296) {bb : Bool} (hD : D.atKey (keyL x) (.lit (.bool false)) = .lit (.bool bb)) :
    (Instr.lookup 89 (.map (some b)) (.int .i64 (x : Int)) false).run Tryd.prog w = .ok (.bool bb) w := by
  have hkey : keyOf Tryd.prog 3 (.int .i64 (x : Nat)) = some (keyL x) := Maps.keyOf_int_mk Tryd.underlying3 (wf_i64 (by omega) (by omega))
  obtain ⟨v, ps, hrun, hv⟩ := h.lookup lawI Tryd.underlying89 (zeroB w) (plainElem_bool Tryd.underlying4 false) hkey
  rw [hD] at hv
  have : v = .bool bb := by
    cases v with
    | bool x =>
      rw [plainElem_bool Tryd.underlying4 x] at hv
      simp only [Option.some.injEq, Prod.mk.injEq, DataW.lit.injEq, Lit.bool.injEq] at hv
      rw [hv.1]
    | _ => simp [plainElem, Tryd.underlying4] at hv
  rw [this] at hrun; exact hrun
theorem map_keep {w w' : World} {b n : Nat} {D : DataW Unit} (h : w.ownsMap Tryd.prog 3 (plainElem Tryd.prog 4) b n D) (hb : w'.heap[b]? = w.heap[b]?) : w'.ownsMap Tryd.prog 3 (plainElem Tryd.prog 4) b n D := by
  obtain ⟨es, clock, h0, r⟩ := h
  exact ⟨es, clock, hb.trans h0, r⟩

/-! ### Shares made at once -/
def nilH (n : Nat) : List HV := List.replicate n (0, .slice none 0 0)
theorem nilH_at {n k : Nat} (h : k < n) : hvAt (nilH n) k = (0, .slice none 0 0) := by simp [hvAt, nilH, List.getD_eq_getElem?_getD, h]
theorem made_sh (n : Nat) : madeCells (Value.agg #[.int .i64 0, .slice none 0 0]).cells (n * 2) = (flatH (nilH n)).toArray := by
  have hl : (flatH (nilH n)).length = n * 2 := by rw [flatH_len]; simp [nilH]
  apply Array.ext
  · rw [size_madeCells]; simp [hl]
  · intro i h1 h2
    rw [size_madeCells] at h1
    have hk : i / 2 < n := by omega
    obtain ⟨f1, f2⟩ := flatH_at (nilH n) (i / 2) (by simp [nilH]; omega)
    rw [nilH_at hk] at f1 f2
    have e : (flatH (nilH n)).toArray[i] = (flatH (nilH n))[i]'(by rw [hl]; exact h1) := by simp
    rw [e]
    have hc : (Value.agg #[.int .i64 0, .slice none 0 0]).cells = #[.int .i64 0, .slice none 0 0] := rfl
    rcases Nat.mod_two_eq_zero_or_one i with hm | hm
    · have hi : i / 2 * 2 = i := by omega
      rw [hi] at f1
      have := (List.getElem?_eq_some_iff.1 f1).2
      rw [this]
      simp [madeCells, hc, hm]
    · have hi : i / 2 * 2 + 1 = i := by omega
      rw [hi] at f2
      have := (List.getElem?_eq_some_iff.1 f2).2
      rw [this]
      simp [madeCells, hc, hm]
theorem run_make_sh (n : Nat) (w : World) (h : n ≤ 1000) : (Instr.makeSlice 31 (.int .i64 (n : Int)) (.int .i64 (n : Int))).run Tryd.prog w = .ok (.slice (some ⟨w.heap.size, 0, none⟩) n n) (w.alloc (.cells (flatH (nilH n)).toArray 53)) := by
  obtain ⟨i, hi, hz0, hz1, hz2⟩ := info_parts info_share
  have := run_make (P := Tryd.prog) w 31 53 i _ Tryd.underlying31 hi hz0 .i64 .i64 n n (by omega) (Int.le_refl _) (by rw [hz2]; omega) (by omega)
  rw [Int.toNat_natCast, hz1, made_sh] at this
  exact this
theorem own_made (w : World) (n : Nat) (h : n ≤ 1000) : HvOwn (w.alloc (.cells (flatH (nilH n)).toArray 53)) w.heap.size (.slice (some ⟨w.heap.size, 0, none⟩) n n) (nilH n) := by
  have hn : (nilH n).length = n := by simp [nilH]
  unfold HvOwn
  rw [hn]
  refine ⟨by rw [flatH_len, hn], .inr ⟨w.heap.size, n, _, rfl, Nat.le_refl _, heap_alloc_new _ _, Nat.le_refl _, by unfold maxLen; omega, by simp [flatH_len, hn], ?_⟩⟩
  rw [List.toList_toArray, List.take_of_length_le (by rw [flatH_len, hn]; exact Nat.le_refl _)]
/-- The first k of them have got their holders. -/
def hhL (h k : Nat) : List HV := (List.range h).map fun j => (((if j < k then j + 1 else 0 : Nat) : Int), .slice none 0 0)
theorem hhL_len (h k : Nat) : (hhL h k).length = h := by simp [hhL]
theorem hhL_at {h k j : Nat} (hj : j < h) : hvAt (hhL h k) j = (((if j < k then j + 1 else 0 : Nat) : Int), .slice none 0 0) := by simp [hvAt, hhL, List.getD_eq_getElem?_getD, hj]
theorem hv_ext {H K : List HV} (hl : H.length = K.length) (h : ∀ j, j < H.length → hvAt H j = hvAt K j) : H = K := by
  refine List.ext_getElem hl fun j h1 h2 => ?_
  have := h j h1
  simpa [hvAt, List.getD_eq_getElem?_getD, h1, h2] using this
theorem hhL_zero (h : Nat) : nilH h = hhL h 0 := hv_ext (by simp [nilH, hhL]) fun j hj => by
  have hj : j < h := by simpa [nilH] using hj
  rw [nilH_at hj, hhL_at hj]; simp
theorem hhL_succ {h k : Nat} (hk : k < h) : (hhL h k).set k ((k : Int) + 1, (hvAt (hhL h k) k).2) = hhL h (k + 1) := by
  refine hv_ext (by simp [hhL]) fun j hj0 => ?_
  have hj : j < h := by simpa [hhL] using hj0
  clear hj0
  by_cases hjk : j = k
  · subst hjk
    rw [hvAt_set_same _ _ _ (by rw [hhL_len]; exact hj), hhL_at (k := j) hj, hhL_at (k := j + 1) hj, if_pos (show j < j + 1 from Nat.lt_succ_self j)]
    simp
  · rw [hvAt_set_other _ _ _ _ (Ne.symm hjk), hhL_at hj, hhL_at hj]
    by_cases h1 : j < k
    · rw [if_pos h1, if_pos (by omega)]
    · rw [if_neg h1, if_neg (by omega)]
theorem rows_hh {w : World} {base g h c : Nat} (H : HvOwn w base (.slice (some ⟨g, 0, none⟩) h c) (hhL h h)) : Rows2 w base (.slice (some ⟨g, 0, none⟩) h c) (hhL h h) (emptyT h) := by
  have he : ∀ j, j < h → hN (emptyT h) j = j + 1 ∧ vN (emptyT h) j = [] := fun j hj => by simp [emptyT, hN, vN, List.getD_eq_getElem?_getD, hj]
  refine ⟨H, by rw [hhL_len, emptyT_len], fun k hk => ?_, fun k hk => ?_, fun i j hi hj _ b e => ?_, fun i hi b e => ?_⟩
  · rw [emptyT_len] at hk
    rw [hhL_at hk, (he k hk).1, if_pos hk]
  · rw [emptyT_len] at hk
    rw [hhL_at hk, (he k hk).2]
    exact World.ownsRow_nil _ _ _ _
  · rw [emptyT_len] at hi
    rw [hhL_at hi] at e; cases e
  · rw [emptyT_len] at hi
    rw [hhL_at hi] at e; cases e

/-! ### Two lists under way -/
theorem app_two {ops : Array Oper} {rest : List Oper} {o : Oper} {a : Act} {Q : Exit → Act → World → Prop} (hgd : o.guard = none) (s x : Operand)
    (ho : o.op = .call { callee := .builtin .append, args := #[s, x], argTypes := #[22, 22] })
    {w0 W : World} {base lo g : Nat} {vx vy : Value} {X Y : List Nat} {y : Nat} (hs : a.eval s = vx) (hx : a.eval x = .slice (some ⟨g, 0, none⟩) 1 1)
    (hT : Two w0 W base lo vx X vy Y) (hL : NatBlk W g [y]) (hl : X.length ≤ 4194304)
    (h : ∀ v' w', Two w0 w' base lo v' (X ++ [y]) vy Y → wpList Tryd.prog ops Q rest (a.put o.dst v') w') :
    wpList Tryd.prog ops Q (o :: rest) a W := by
  refine app_nats_at hgd s x ho hs hT.ox hx (T := [y]) (hL.nats.news rfl) (by simp; omega) hT.size ?_
  intro v' w' hown hg hB hat
  refine h v' w' ⟨hown, ?_, ?_, hT.below.trans hB, Nat.le_trans hT.size hg.size, Nat.le_trans hT.up hg.size⟩
  · refine hT.oy.kept hg ?_
    rcases hy : vy.ownBlock with _ | b
    · exact .inl rfl
    · exact .inr (fun e => hT.ne b e.symm hy)
  · intro b e1 e2
    rcases hat with e | e
    · exact hT.ne b (by rw [← e]; exact e1) e2
    · rw [e] at e1
      injection e1 with e1
      subst e1
      have := (hT.oy.lt _ e2).2; omega
theorem Two.forms {w0 W : World} {base lo : Nat} {vx vy : Value} {X Y : List Nat} (h : Two w0 W base lo vx X vy Y) : ∃ A c B c', vx = .slice A X.length c ∧ vy = .slice B Y.length c' := by
  obtain ⟨A, c, rfl, -⟩ := own_sl h.ox rfl
  obtain ⟨B, c', rfl, -⟩ := own_sl h.oy rfl
  exact ⟨A, c, B, c', rfl, rfl⟩
theorem own_one {w : World} {base n c : Nat} {B : Option Addr} {e : TypeId} {xs : List Value} (h : w.ownsRow base e 1 (.slice B n c) n xs) (h0 : 0 < n) : ∃ b, B = some ⟨b, 0, none⟩ ∧ base ≤ b ∧ b < w.heap.size := by
  have hlt := World.ownsRow.lt h
  rcases h.2 with ⟨_, h2⟩ | ⟨g, cap, cur, hv, hg, hh, -⟩
  · omega
  · injection hv with e1 e2 e3
    subst e1
    exact ⟨g, rfl, hg, (hlt g rfl).2⟩
/-- A list made later lies in none of the rows. -/
theorem far_new {w : World} {base lo : Nat} {v : Value} {H : List HV} {T : List ShN} (h : Rows2 w base v H T) {F : Option Addr} (hF : ∀ b off, F = some ⟨b, off, none⟩ → w.heap.size ≤ b) : FarF F v H T.length := fun bF off e =>
  ⟨fun i hi b e2 => by have h1 := hF bF off e; have h2 := (World.ownsRow.lt (h.row i hi) b e2).2; omega, fun b e2 => by have h1 := hF bF off e; have h2 := (World.ownsRow.lt h.out b e2).2; omega⟩
theorem Two.ge {w0 W : World} {base lo : Nat} {A B : Option Addr} {c c' : Nat} {X Y : List Nat} (h : Two w0 W base lo (.slice A X.length c) X (.slice B Y.length c') Y) : (∀ b off, A = some ⟨b, off, none⟩ → base ≤ b ∧ b < W.heap.size) ∧ ∀ b off, B = some ⟨b, off, none⟩ → base ≤ b ∧ b < W.heap.size := by
  obtain ⟨_, _, hv, _, _, h3⟩ := own_sl h.ox rfl
  injection hv with e1 _ e3
  subst e1; subst e3
  obtain ⟨_, _, hv, _, _, h4⟩ := own_sl h.oy rfl
  injection hv with e1 _ e3
  subst e1; subst e3
  exact ⟨h3, h4⟩
end Go.Proofs.YtlhipgejiacklaaDoor
